/- Lemmas for the statements of this seat. -/
import Derived.Test.YtllmkadmohkbfaaGreatDoorG2
import Derived.Test.YtllmkadmohkbfaaGreatDoorP2
import Derived.Test.YtllmkadmohkbfaaGreatDoorP3
namespace Go.Proofs.YtllmkadmohkbfaaGreatDoor.Sym
open Go Path dE
set_option linter.unusedVariables false
def aT(p:List ah):List Rat:=p.map ah.val
abbrev iN(k:Nat)(p:List ah):Prop:=∀a∈p,a.num.length≤k∧a.den.length≤k
abbrev Fl(k:Nat)(q:List Rat):Prop:=∀x∈q,ht x≤k
def aU:List Rat→List Rat
 |[]=>[]
 |a::r=>bif (aU r).isEmpty&&decide (a=0) then [] else a::aU r
theorem yU:∀q:List Rat,aU (q++[0])=aU q
 |[]=>rfl
 |a::r=>by
  show(bif (aU (r++[0])).isEmpty&&decide (a=0) then [] else a::aU (r++[0]))=_
  rw[yU r];rfl
theorem Dn{v:Rat}(h:v≠0):∀{q:List Rat},aU (q++[v])=q++[v]
 |[]=>by
  show(bif (aU []).isEmpty&&decide (v=0) then [] else v::aU [])=[v]
  rw[decide_eq_false h,Bool.and_false];rfl
 |a::r=>by
  show(bif (aU (r++[v])).isEmpty&&decide (a=0) then [] else a::aU (r++[v]))=_
  rw[Dn h]
  cases r<;>rfl
theorem Kb{α:Type}{q:List α}{n:Nat}{v:α}(h:q[n]? = some v)(hl:q.length=n+1):q=q.take n++[v]:=by
 have:=List.take_add_one (l:=q) (i:=n)
 rw[h,List.take_of_length_le (by omega)] at this
 exact this
theorem qg{k:Nat}{p:List ah}(h:iN k p)(hk:1≤k):Fl k (aT p):=by
 intro x hx
 unfold aT at hx
 obtain⟨a,ha,rfl⟩:=List.mem_map.1 hx
 exact eQ (h a ha).1 (h a ha).2 hk
theorem wX{q:List Rat}(h:Fl 274877906944 q):iN 274877906944 (q.map aE):=by
 intro a ha
 obtain⟨x,hx,rfl⟩:=List.mem_map.1 ha
 exact nS (h x hx)
theorem aW{q:Rat}{k:Nat}(h:ht q≤k):(aE q).num.length≤k∧(aE q).den.length≤k:=by
 by_cases h0:q=0
 ·subst h0;constructor<;>simp[ot]
 ·rw[yS h0]
  exact⟨Nat.le_trans (js q) h,Nat.le_trans (jO q) h⟩
theorem db{q:List Rat}{k:Nat}(h:Fl k q):iN k (q.map aE):=by
 intro a ha
 obtain⟨x,hx,rfl⟩:=List.mem_map.1 ha
 exact aW (h x hx)
theorem cO(q:List Rat):aT (q.map aE)=q:=by
 unfold aT
 rw[List.map_map]
 conv=>rhs;rw[←List.map_id q]
 exact List.map_congr_left (fun x _=>bS x)
theorem sk{p:List ah}(h:p.all ah.valid=true):(aT p).map aE=p:=by
 unfold aT
 rw[List.map_map]
 conv=>rhs;rw[←List.map_id p]
 exact List.map_congr_left (fun x hx=>oM (List.all_eq_true.1 h x hx))
theorem Jd{p:List ah}{n:Nat}{v:ah}(h:p[n]? = some v):(aT p).drop n=v.val::(aT p).drop (n+1):=by
 obtain⟨h1,h2⟩:=List.getElem?_eq_some_iff.1 h
 unfold aT
 rw[List.drop_eq_getElem_cons (by simpa using h1),List.getElem_map,h2]
def aJ(q:List Rat):Bool:=match q.getLast? with
 |none=>false
 |some v=>decide (v=0)
theorem Ho{p:List ah}(h:aJ (aT p)=true):∃v,0<p.length∧p[p.length-1]? = some v∧v.val=0:=by
 unfold aJ aT at h
 rw[List.getLast?_map,List.getLast?_eq_getElem?] at h
 cases hv:p[p.length-1]? with
 |none=>rw[hv] at h;cases h
 |some v =>
  rw[hv] at h
  have h:decide (v.val=0)=true:=h
  exact⟨v,by have:=(List.getElem?_eq_some_iff.1 hv).1;omega,rfl,of_decide_eq_true h⟩
theorem E6{p:List ah}(h:aJ (aT p)=false)(h0:p.length≠0):∃v,p[p.length-1]? = some v∧v.val≠0:=by
 unfold aJ aT at h
 rw[List.getLast?_map,List.getLast?_eq_getElem?] at h
 obtain⟨v,hv⟩:∃v,p[p.length-1]? = some v:=⟨_,List.getElem?_eq_getElem (by omega)⟩
 rw[hv] at h
 have h:decide (v.val=0)=false:=h
 exact⟨v,hv,of_decide_eq_false h⟩
def kN(p:List ah):Int:=if 65<p.length then 4 else bif p.all ah.valid then (bif aJ (aT p) then 8 else 0) else 2
def l6(n:Int):Option Int:=if n=0 then none else some n
theorem gw{n:Int}(h:n≠0):l6 n=some n:=if_neg h
theorem Dr{p:List ah}(h:kN p=0):p.length≤65:=by
 unfold kN at h
 split at h
 ·cases h
 ·omega
theorem nd{p:List ah}(h:kN p=0):p.all ah.valid=true:=by
 unfold kN at h
 split at h
 ·cases h
 ·cases hv:p.all ah.valid with
  |true=>rfl
  |false=>rw[hv] at h;cases h
theorem vD{p:List ah}(h:kN p=0):aJ (aT p)=false:=by
 unfold kN at h
 split at h
 ·cases h
 ·cases hv:p.all ah.valid with
  |false=>rw[hv] at h;cases h
  |true =>
   rw[hv] at h
   cases hz:aJ (aT p) with
   |false=>rfl
   |true=>rw[hz] at h;cases h
def evalL:List Rat→Rat→Rat
 |[],_=>0
 |a::r,x=>evalL r x*x+a
theorem fN(q:List Rat)(x:Rat)(k:Nat)(h:Fl k q)(hx:ht x≤k):ht (evalL q x)≤q.length*(2*k+1)+1:=by
 induction q with
 |nil =>
  have:ht (evalL [] x)=1:=jF
  omega
 |cons a r ih =>
  have h1:=ih (fun y hy=>h y (List.mem_cons_of_mem _ hy))
  have h2:=h a (List.mem_cons_self ..)
  have h3:=dP (evalL r x) x
  have h4:=jg (evalL r x*x) a
  show ht (evalL r x*x+a)≤_
  rw[List.length_cons,Nat.add_mul]
  omega
def ld:Nat→List Rat→List Rat
 |_,[]=>[]
 |i,a::r=>((i:Int):Rat)*a::ld (i+1) r
def ar(q:List Rat):List Rat:=aU (ld 1 (q.drop 1))
theorem tX:∀(q:List Rat) (i:Nat),(ld i q).length=q.length
 |[],_=>rfl
 |a::r,i=>by rw[ld,List.length_cons,List.length_cons,tX r]
theorem Je:∀(q:List Rat) (i:Nat) (a:Rat),ld i (q++[a])=ld i q++[(((i+q.length:Nat):Int):Rat)*a]
 |[],i,a=>rfl
 |b::r,i,a=>by
  rw[List.cons_append,ld,ld,Je r (i+1) a,List.length_cons,List.cons_append,show i+1+r.length=i+(r.length+1) from by omega]
theorem Jf{p:List ah}{i:Nat}{v:ah}(hv:p[i]? = some v)(h:1≤i):ld 1 (((aT p).take (i+1)).drop 1)=ld 1 (((aT p).take i).drop 1)++[((i:Int):Rat)*v.val]:=by
 have h1:=(List.getElem?_eq_some_iff.1 hv).1
 have hm:(aT p)[i]? = some v.val:=by unfold aT;rw[List.getElem?_map,hv];rfl
 have hl:((aT p).take i).length=i:=by unfold aT;simp;omega
 rw[List.take_add_one,hm,List.drop_append_of_le_length (by omega)]
 show ld 1 (((aT p).take i).drop 1++[v.val])=_
 rw[Je,List.length_drop,hl,show 1+(i-1)=i from by omega]
theorem Kc{k:Nat}(hk:k+2≤274877906944):∀(q:List Rat) (i:Nat),i+q.length≤18446744073709551615→Fl k q→Fl 274877906944 (ld i q)
 |[],_,_,_=>fun x hx=>by cases hx
 |a::r,i,hi,h=>by
  intro x hx
  rw[List.length_cons] at hi
  rcases List.mem_cons.1 hx with e|hx
  ·rw[e]
   have h1:=dP ((i:Int):Rat) a
   have h2:=h a (List.mem_cons_self ..)
   have h3:ht ((i:Int):Rat)≤2:=by
    rw[pz]
    have:wl (i:Int)≤2:=oZ (by omega)
    omega
   omega
  ·exact Kc hk r (i+1) (by omega) (fun y hy=>h y (List.mem_cons_of_mem _ hy)) x hx
namespace uh
theorem mG(a:ah)(h:nR a):Cp 91 [a.pv,(⟨false,[],[]⟩:ah).pv] (aE a.val).pv:=by
 have hf:=qC.Add a ⟨false,[],[]⟩ h ⟨by simp,by simp⟩
 rwa[yT (a:=⟨false,[],[]⟩) rfl,Rat.add_zero] at hf
theorem Rz:∀(n:Nat) (q:List Rat),q.length=n→n<4611686018427387904→Fl 274877906944 q→qb.cz (q.map aE) (ae ((aU q).map aE)):=by
 intro n
 induction n with
 |zero =>
  intro q hq _ _
  have:q=[]:=List.eq_nil_of_length_eq_zero hq
  subst this
  exact qb.Ol [] (by simp)
 |succ n ih =>
  intro q hq hb hf
  obtain⟨v,hv⟩:∃v,q[n]? = some v:=⟨_,List.getElem?_eq_getElem (by omega)⟩
  have hs:=Kb hv hq
  have hm:(q.map aE)[n]? = some (aE v):=by rw[List.getElem?_map,hv];rfl
  have B0:=hf v (List.mem_of_getElem? hv)
  have sg:=qC.Sign (aE v) (nS B0)
  rw[bS] at sg
  have hl:(q.map aE).length=n+1:=by rw[List.length_map];exact hq
  by_cases h0:v=0
  ·refine qb.xl (q.map aE) n (aE v) _ n (by omega) (by unfold aw;omega) (by omega) (by omega) hm sg (dm.2 h0) (by omega) (by omega) ?_
   have:=ih (q.take n) (by rw[List.length_take];omega) (by omega) (fun x hx=>hf x (List.mem_of_mem_take hx))
   rw[List.map_take] at this
   rw[hs,h0,yU]
   rw[←hs.symm,←h0,←hs] at *
   exact this
  ·rw[hs,Dn h0,←hs]
   exact qb.AR (q.map aE) n (aE v) _ (by omega) (by unfold aw;omega) (by omega) (by omega) hm sg (fun e=>h0 (dm.1 e))
theorem Trim(l:List ah)(hl:l.length≤1099511627776)(hf:iN 274877906944 l):Cp 182 [ae l] (ae ((aU (aT l)).map aE)):=by
 have loop:∀(j t:Nat) (site:List ah),l.length-t=j→t≤l.length→site=(l.take t).map (fun a=>aE a.val)→qb.aj site l t (ae ((aU (aT l)).map aE)):=by
  intro j
  induction j with
  |zero =>
   intro t site hj ht hs
   have CY:t=l.length:=by omega
   subst CY
   refine qb.dw site l _ (Nat.le_refl _) ?_
   rw[List.take_of_length_le (Nat.le_refl _)] at hs
   have:=Rz (aT l).length (aT l) rfl (by unfold aT;rw[List.length_map];omega) (qg hf (by omega))
   have e:site=(aT l).map aE:=by rw[hs];unfold aT;rw[List.map_map];rfl
   rw[e];exact this
  |succ j ih =>
   intro t site hj ht hs
   obtain⟨v,hv⟩:∃v,l[t]? = some v:=⟨_,List.getElem?_eq_getElem (by omega)⟩
   have ha:=mG v (hf v (List.mem_of_getElem? hv))
   have Wv:site.length=t:=by rw[hs,List.length_map,List.length_take];omega
   refine qb.l10 site l t v _ (by omega) hv ha (by simp;omega) (by omega) (ih (t+1) _ (by omega) (by omega) ?_)
   rw[hs,List.take_add_one,hv];simp
 exact qb.e0 l (loop _ 0 [] rfl (by omega) rfl)
theorem M9:∀(j:Nat) (p:List ah) (t:Nat),p.length-t=j→t≤p.length→p.length≤65→iN 274877906944 p→(p.take t).all ah.valid=true →
  (p.all ah.valid=false→jq.aj p t (.iface 67 (vI 2)))∧(p.all ah.valid=true→aJ (aT p)=true→jq.aj p t (.iface 67 (vI 8)))∧(p.all ah.valid=true→aJ (aT p)=false→jq.aj p t .aq):=by
 intro j
 induction j with
 |zero =>
  intro p t hj ht hl hf hv
  have CY:t=p.length:=by omega
  subst CY
  rw[List.take_of_length_le (Nat.le_refl _)] at hv
  refine⟨fun h => ?_,fun _ hz => ?_,fun _ hz => ?_⟩
  ·rw[hv] at h;cases h
  ·obtain⟨v,h0,h1,h2⟩:=Ho hz
   have sg:=qC.Sign v (hf v (List.mem_of_getElem? h1))
   exact jq.ji p _ (p.length-1) v _ (Nat.le_refl _) h0 (by unfold aw;omega) (by omega) h1 sg (dm.2 h2)
  ·by_cases h0:p.length=0
   ·exact jq.AS p _ (Nat.le_refl _) (by omega)
   ·obtain⟨v,h1,h2⟩:=E6 hz h0
    have sg:=qC.Sign v (hf v (List.mem_of_getElem? h1))
    exact jq.oK p _ (p.length-1) v _ (Nat.le_refl _) (by omega) (by unfold aw;omega) (by omega) h1 sg (fun e=>h2 (dm.1 e))
 |succ j ih =>
  intro p t hj ht hl hf hv
  obtain⟨v,h1⟩:∃v,p[t]? = some v:=⟨_,List.getElem?_eq_getElem (by omega)⟩
  have Tn:=qC.Valid v (hf v (List.mem_of_getElem? h1))
  cases hc:v.valid with
  |false =>
   have Ge:p.all ah.valid=false:=by
    rw[List.all_eq_false]
    exact⟨v,List.mem_of_getElem? h1,by rw[hc];simp⟩
   refine⟨fun _=>jq.l10 p t v _ (by omega) h1 Tn hc,fun h => ?_,fun h => ?_⟩
   ·rw[Ge] at h;cases h
   ·rw[Ge] at h;cases h
  |true =>
   obtain⟨g1,g2,g3⟩:=ih p (t+1) (by omega) (by omega) hl hf (by rw[List.take_add_one,h1];simp[hv,hc])
   exact⟨fun h=>jq.dw p t v _ (by omega) h1 Tn hc (by omega) (g1 h),fun h h'=>jq.dw p t v _ (by omega) h1 Tn hc (by omega) (g2 h h'),fun h h'=>jq.dw p t v _ (by omega) h1 Tn hc (by omega) (g3 h h')⟩
theorem Check(p:List ah)(hf:iN 274877906944 p):Cp 79 [ae p] (bC (l6 (kN p))):=by
 unfold kN
 by_cases hl:p.length≤65
 ·rw[if_neg (by omega)]
  obtain⟨g1,g2,g3⟩:=M9 _ p 0 rfl (by omega) hl hf (by simp)
  cases hv:p.all ah.valid with
  |false=>exact jq.e1 p hl (g1 hv)
  |true =>
   cases hz:aJ (aT p) with
   |true=>exact jq.e1 p hl (g2 hv hz)
   |false=>exact jq.e1 p hl (g3 hv hz)
 ·rw[if_pos (by omega)]
  exact jq.e0 p (by omega)
theorem RA(p:List ah)(x:ah)(hl:p.length≤65)(hp:iN 1073741824 p)(hx:x.num.length≤1073741824∧x.den.length≤1073741824):∀(n:Nat) (q:Rat),n≤p.length→q=evalL ((aT p).drop n) x.val →
  xN.aj p ((n:Int)-1) x (aE q) (.aB [(aE (evalL (aT p) x.val)).pv,.aq]):=by
 intro n
 induction n with
 |zero =>
  intro q _ hq
  rw[List.drop_zero] at hq
  rw[←hq]
  exact xN.dw p _ x _ (by omega)
 |succ n ih =>
  intro q hn hq
  obtain⟨v,hv⟩:∃v,p[n]? = some v:=⟨_,List.getElem?_eq_getElem (by omega)⟩
  have Sf:=hp v (List.mem_of_getElem? hv)
  have b1:=eQ Sf.1 Sf.2 (by omega)
  have b2:=eQ hx.1 hx.2 (by omega)
  have b3:ht q≤65*2147483649+1:=by
   rw[hq]
   refine Nat.le_trans (fN _ x.val 1073741824 (fun y hy=>qg hp (by omega) y (List.mem_of_mem_drop hy)) b2) ?_
   have:((aT p).drop (n+1)).length≤65:=by unfold aT;simp;omega
   omega
  have m:=qC.Mul (aE q) x (nS (by omega)) ⟨by omega,by omega⟩
  rw[bS] at m
  have b4:=dP q x.val
  have s:=qC.Add (aE (q*x.val)) v (nS (by omega)) ⟨by omega,by omega⟩
  rw[bS] at s
  have:=ih (q*x.val+v.val) (by omega) (by rw[hq,Jd hv];rfl)
  rw[show ((n+1:Nat):Int)-1=(n:Int) from by omega]
  exact xN.l10 p (n:Int) x _ _ n v _ (by omega) m rfl hv s (by unfold aw;omega) this
theorem Eval(p:List ah)(x:ah)(hc:kN p=0)(hp:iN 1073741824 p)(hx:x.num.length≤1073741824∧x.den.length≤1073741824):Cp 133 [ae p,x.pv] (.aB [(aE (evalL (aT p) x.val)).pv,.aq]):=by
 have hk:=Check p (fun a ha=>⟨by have:=(hp a ha).1;omega,by have:=(hp a ha).2;omega⟩)
 rw[hc] at hk
 have hl:=Dr hc
 exact xN.e0 p x hk (by unfold aw;omega) (RA p x hl hp hx p.length 0 (Nat.le_refl _) (by rw[List.drop_of_length_le (by unfold aT;simp)];rfl))
theorem derive(p:List ah)(hl:p.length≤65)(hp:iN 137438953472 p):Cp 155 [ae p] (ae ((ar (aT p)).map aE)):=by
 have loop:∀(j i:Nat) (site:List ah),p.length-i=j→1≤i→site=(ld 1 (((aT p).take i).drop 1)).map aE→tQ.aj p site i (ae ((ar (aT p)).map aE)):=by
  intro j
  induction j with
  |zero =>
   intro i site hj h1 hs
   rw[List.take_of_length_le (by unfold aT;rw[List.length_map];omega)] at hs
   have yn:Fl 274877906944 (ld 1 ((aT p).drop 1)):=Kc (k:=137438953472) (by omega) _ 1 (by unfold aT;simp;omega) (fun y hy=>qg hp (by omega) y (List.mem_of_mem_drop hy))
   have ht:=Trim site (by rw[hs,List.length_map,tX];unfold aT;simp;omega) (by rw[hs];exact wX yn)
   rw[hs,cO] at ht
   rw[hs]
   exact tQ.dw p _ i _ (by omega) ht
  |succ j ih =>
   intro i site hj h1 hs
   obtain⟨v,hv⟩:∃v,p[i]? = some v:=⟨_,List.getElem?_eq_getElem (by omega)⟩
   have Sf:=hp v (List.mem_of_getElem? hv)
   have ho:=qC.Of (i:Int) (by unfold aw;omega)
   have b1:ht ((i:Int):Rat)≤2:=by
    rw[pz]
    have:wl (i:Int)≤2:=oZ (by omega)
    omega
   have m:=qC.Mul (aE ((i:Int):Rat)) v (nS (by omega)) ⟨by omega,by omega⟩
   rw[bS] at m
   have Wv:site.length=i-1:=by rw[hs,List.length_map,tX];unfold aT;simp;omega
   refine tQ.l10 p site i _ v _ (by omega) ho hv m (by simp;omega) (by omega) (ih (i+1) _ (by omega) (by omega) ?_)
   rw[hs,Jf hv h1]
   simp
 exact tQ.e0 p (loop _ 1 [] rfl (by omega) (by rw[show (((aT p).take 1).drop 1)=[] from by simp];rfl))
theorem iS(p:List ah)(hc:kN p=0)(hp:iN 137438953472 p):Cp 80 [ae p] (.aB [ae ((ar (aT p)).map aE),.aq]):=by
 have hk:=Check p (fun a ha=>⟨by have:=(hp a ha).1;omega,by have:=(hp a ha).2;omega⟩)
 rw[hc] at hk
 exact E2.e0 p _ hk (derive p (Dr hc) hp)
end uh
namespace zJ
theorem mG(a:ah)(h:nR a):Cp 70 [a.pv,(⟨false,[],[]⟩:ah).pv] (aE a.val).pv:=by
 have hf:=tj.Add a ⟨false,[],[]⟩ h ⟨by simp,by simp⟩
 rwa[yT (a:=⟨false,[],[]⟩) rfl,Rat.add_zero] at hf
theorem Rz:∀(n:Nat) (q:List Rat),q.length=n→n<4611686018427387904→Fl 274877906944 q→gG.cz (q.map aE) (ae ((aU q).map aE)):=by
 intro n
 induction n with
 |zero =>
  intro q hq _ _
  have:q=[]:=List.eq_nil_of_length_eq_zero hq
  subst this
  exact gG.Ol [] (by simp)
 |succ n ih =>
  intro q hq hb hf
  obtain⟨v,hv⟩:∃v,q[n]? = some v:=⟨_,List.getElem?_eq_getElem (by omega)⟩
  have hs:=Kb hv hq
  have hm:(q.map aE)[n]? = some (aE v):=by rw[List.getElem?_map,hv];rfl
  have B0:=hf v (List.mem_of_getElem? hv)
  have sg:=tj.Sign (aE v) (nS B0)
  rw[bS] at sg
  have hl:(q.map aE).length=n+1:=by rw[List.length_map];exact hq
  by_cases h0:v=0
  ·refine gG.xl (q.map aE) n (aE v) _ n (by omega) (by unfold aw;omega) (by omega) (by omega) hm sg (dm.2 h0) (by omega) (by omega) ?_
   have:=ih (q.take n) (by rw[List.length_take];omega) (by omega) (fun x hx=>hf x (List.mem_of_mem_take hx))
   rw[List.map_take] at this
   rw[hs,h0,yU]
   rw[←hs.symm,←h0,←hs] at *
   exact this
  ·rw[hs,Dn h0,←hs]
   exact gG.AR (q.map aE) n (aE v) _ (by omega) (by unfold aw;omega) (by omega) (by omega) hm sg (fun e=>h0 (dm.1 e))
theorem Trim(l:List ah)(hl:l.length≤1099511627776)(hf:iN 274877906944 l):Cp 106 [ae l] (ae ((aU (aT l)).map aE)):=by
 have loop:∀(j t:Nat) (site:List ah),l.length-t=j→t≤l.length→site=(l.take t).map (fun a=>aE a.val)→gG.aj site l t (ae ((aU (aT l)).map aE)):=by
  intro j
  induction j with
  |zero =>
   intro t site hj ht hs
   have CY:t=l.length:=by omega
   subst CY
   refine gG.dw site l _ (Nat.le_refl _) ?_
   rw[List.take_of_length_le (Nat.le_refl _)] at hs
   have:=Rz (aT l).length (aT l) rfl (by unfold aT;rw[List.length_map];omega) (qg hf (by omega))
   have e:site=(aT l).map aE:=by rw[hs];unfold aT;rw[List.map_map];rfl
   rw[e];exact this
  |succ j ih =>
   intro t site hj ht hs
   obtain⟨v,hv⟩:∃v,l[t]? = some v:=⟨_,List.getElem?_eq_getElem (by omega)⟩
   have ha:=mG v (hf v (List.mem_of_getElem? hv))
   have Wv:site.length=t:=by rw[hs,List.length_map,List.length_take];omega
   refine gG.l10 site l t v _ (by omega) hv ha (by simp;omega) (by omega) (ih (t+1) _ (by omega) (by omega) ?_)
   rw[hs,List.take_add_one,hv];simp
 exact gG.e0 l (loop _ 0 [] rfl (by omega) rfl)
theorem M9:∀(j:Nat) (p:List ah) (t:Nat),p.length-t=j→t≤p.length→p.length≤65→iN 274877906944 p→(p.take t).all ah.valid=true →
  (p.all ah.valid=false→dy.aj p t (vI 2))∧(p.all ah.valid=true→aJ (aT p)=true→dy.aj p t (vI 8))∧(p.all ah.valid=true→aJ (aT p)=false→dy.aj p t (vI 0)):=by
 intro j
 induction j with
 |zero =>
  intro p t hj ht hl hf hv
  have CY:t=p.length:=by omega
  subst CY
  rw[List.take_of_length_le (Nat.le_refl _)] at hv
  refine⟨fun h => ?_,fun _ hz => ?_,fun _ hz => ?_⟩
  ·rw[hv] at h;cases h
  ·obtain⟨v,h0,h1,h2⟩:=Ho hz
   have sg:=tj.Sign v (hf v (List.mem_of_getElem? h1))
   exact dy.ji p _ (p.length-1) v _ (Nat.le_refl _) h0 (by unfold aw;omega) (by omega) h1 sg (dm.2 h2)
  ·by_cases h0:p.length=0
   ·exact dy.AS p _ (Nat.le_refl _) (by omega)
   ·obtain⟨v,h1,h2⟩:=E6 hz h0
    have sg:=tj.Sign v (hf v (List.mem_of_getElem? h1))
    exact dy.oK p _ (p.length-1) v _ (Nat.le_refl _) (by omega) (by unfold aw;omega) (by omega) h1 sg (fun e=>h2 (dm.1 e))
 |succ j ih =>
  intro p t hj ht hl hf hv
  obtain⟨v,h1⟩:∃v,p[t]? = some v:=⟨_,List.getElem?_eq_getElem (by omega)⟩
  have Tn:=tj.Valid v (hf v (List.mem_of_getElem? h1))
  cases hc:v.valid with
  |false =>
   have Ge:p.all ah.valid=false:=by
    rw[List.all_eq_false]
    exact⟨v,List.mem_of_getElem? h1,by rw[hc];simp⟩
   refine⟨fun _=>dy.l10 p t v _ (by omega) h1 Tn hc,fun h => ?_,fun h => ?_⟩
   ·rw[Ge] at h;cases h
   ·rw[Ge] at h;cases h
  |true =>
   obtain⟨g1,g2,g3⟩:=ih p (t+1) (by omega) (by omega) hl hf (by rw[List.take_add_one,h1];simp[hv,hc])
   exact⟨fun h=>dy.dw p t v _ (by omega) h1 Tn hc (by omega) (g1 h),fun h h'=>dy.dw p t v _ (by omega) h1 Tn hc (by omega) (g2 h h'),fun h h'=>dy.dw p t v _ (by omega) h1 Tn hc (by omega) (g3 h h')⟩
theorem Check(p:List ah)(hf:iN 274877906944 p):Cp 56 [ae p] (vI (kN p)):=by
 unfold kN
 by_cases hl:p.length≤65
 ·rw[if_neg (by omega)]
  obtain⟨g1,g2,g3⟩:=M9 _ p 0 rfl (by omega) hl hf (by simp)
  cases hv:p.all ah.valid with
  |false=>exact dy.e1 p hl (g1 hv)
  |true =>
   cases hz:aJ (aT p) with
   |true=>exact dy.e1 p hl (g2 hv hz)
   |false=>exact dy.e1 p hl (g3 hv hz)
 ·rw[if_pos (by omega)]
  exact dy.e0 p (by omega)
theorem RA(p:List ah)(x:ah)(hl:p.length≤65)(hp:iN 1073741824 p)(hx:x.num.length≤1073741824∧x.den.length≤1073741824):∀(n:Nat) (q:Rat),n≤p.length→q=evalL ((aT p).drop n) x.val →
  mW.aj p ((n:Int)-1) x (aE q) (aE (evalL (aT p) x.val)).pv:=by
 intro n
 induction n with
 |zero =>
  intro q _ hq
  rw[List.drop_zero] at hq
  rw[←hq]
  exact mW.dw p _ x _ (by omega)
 |succ n ih =>
  intro q hn hq
  obtain⟨v,hv⟩:∃v,p[n]? = some v:=⟨_,List.getElem?_eq_getElem (by omega)⟩
  have Sf:=hp v (List.mem_of_getElem? hv)
  have b1:=eQ Sf.1 Sf.2 (by omega)
  have b2:=eQ hx.1 hx.2 (by omega)
  have b3:ht q≤65*2147483649+1:=by
   rw[hq]
   refine Nat.le_trans (fN _ x.val 1073741824 (fun y hy=>qg hp (by omega) y (List.mem_of_mem_drop hy)) b2) ?_
   have:((aT p).drop (n+1)).length≤65:=by unfold aT;simp;omega
   omega
  have m:=tj.Mul (aE q) x (nS (by omega)) ⟨by omega,by omega⟩
  rw[bS] at m
  have b4:=dP q x.val
  have s:=tj.Add (aE (q*x.val)) v (nS (by omega)) ⟨by omega,by omega⟩
  rw[bS] at s
  have:=ih (q*x.val+v.val) (by omega) (by rw[hq,Jd hv];rfl)
  rw[show ((n+1:Nat):Int)-1=(n:Int) from by omega]
  exact mW.l10 p (n:Int) x _ _ n v _ (by omega) m rfl hv s (by unfold aw;omega) this
theorem At(p:List ah)(x:ah)(hl:p.length≤65)(hp:iN 1073741824 p)(hx:x.num.length≤1073741824∧x.den.length≤1073741824):Cp 208 [ae p,x.pv] (aE (evalL (aT p) x.val)).pv:=by
 exact mW.e0 p x (by unfold aw;omega) (RA p x hl hp hx p.length 0 (Nat.le_refl _) (by rw[List.drop_of_length_le (by unfold aT;simp)];rfl))
theorem derive(p:List ah)(hl:p.length≤65)(hp:iN 137438953472 p):Cp 162 [ae p] (ae ((ar (aT p)).map aE)):=by
 have loop:∀(j i:Nat) (site:List ah),p.length-i=j→i≤p.length→site=(ld 1 (((aT p).take i).drop 1)).map aE→jw.aj site p i (ae ((ar (aT p)).map aE)):=by
  intro j
  induction j with
  |zero =>
   intro i site hj h1 hs
   rw[List.take_of_length_le (by unfold aT;rw[List.length_map];omega)] at hs
   have yn:Fl 274877906944 (ld 1 ((aT p).drop 1)):=Kc (k:=137438953472) (by omega) _ 1 (by unfold aT;simp;omega) (fun y hy=>qg hp (by omega) y (List.mem_of_mem_drop hy))
   have ht:=Trim site (by rw[hs,List.length_map,tX];unfold aT;simp;omega) (by rw[hs];exact wX yn)
   rw[hs,cO] at ht
   rw[hs]
   exact jw.ji _ p i _ (by omega) ht
  |succ j ih =>
   intro i site hj h1 hs
   obtain⟨v,hv⟩:∃v,p[i]? = some v:=⟨_,List.getElem?_eq_getElem (by omega)⟩
   by_cases hi:i=0
   ·subst hi
    refine jw.dw site p 0 v (by omega) hv (by omega) (by omega) (ih 1 site (by omega) (by omega) ?_)
    rw[hs];simp
   ·have Sf:=hp v (List.mem_of_getElem? hv)
    have ho:=tj.Of (i:Int) (by unfold aw;omega)
    have b1:ht ((i:Int):Rat)≤2:=by
     rw[pz]
     have:wl (i:Int)≤2:=oZ (by omega)
     omega
    have m:=tj.Mul (aE ((i:Int):Rat)) v (nS (by omega)) ⟨by omega,by omega⟩
    rw[bS] at m
    have Wv:site.length=i-1:=by rw[hs,List.length_map,tX];unfold aT;simp;omega
    refine jw.l10 site p i v _ _ (by omega) hv (by omega) ho m (by simp;omega) (by omega) (ih (i+1) _ (by omega) (by omega) ?_)
    rw[hs,Jf hv (by omega)]
    simp
 exact jw.e0 p (loop _ 0 [] rfl (by omega) (by rw[show (((aT p).take 0).drop 1)=[] from by simp];rfl))
theorem iS(p:List ah)(hc:kN p=0)(hp:iN 137438953472 p):Cp 84 [ae p] (.aB [ae ((ar (aT p)).map aE),vI 0]):=by
 have hk:=Check p (fun a ha=>⟨by have:=(hp a ha).1;omega,by have:=(hp a ha).2;omega⟩)
 exact tR.e1 p _ _ hk hc (derive p (Dr hc) hp)
end zJ
theorem mr{p q:Rat} : 0≤dz p q↔q≤p:=by
 constructor
 ·intro h
  have:¬p<q:=fun e=>by have:=F0.2 e;omega
  grind
 ·intro h
  refine Int.not_lt.1 fun e => ?_
  have:=F0.1 e
  grind
theorem lZ{p q:Rat} : dz p q≤0↔p≤q:=by
 constructor
 ·intro h
  have:¬q<p:=fun e=>by have:=Oy.2 e;omega
  grind
 ·intro h
  refine Int.not_lt.1 fun e => ?_
  have:=Oy.1 e
  grind
theorem drop_cons{α:Type}{l:List α}{t:Nat}{v:α}(h:l[t]? = some v):l.drop t=v::l.drop (t+1):=by
 obtain⟨h1,h2⟩:=List.getElem?_eq_some_iff.1 h
 rw[List.drop_eq_getElem_cons h1,h2]
theorem B6{q:Rat}(h:ht q≤68719476736):nR (aE q):=nS (by omega)
theorem qD(p q:Rat){k:Nat}(hp:ht p≤k)(hq:ht q≤k):ht (eZ p q)≤k:=by unfold eZ;split<;>assumption
theorem qE(p q:Rat){k:Nat}(hp:ht p≤k)(hq:ht q≤k):ht (fD p q)≤k:=by unfold fD;split<;>assumption
theorem tn(p:Rat):eZ p p=p:=by unfold eZ;split<;>rfl
theorem tp(p:Rat):fD p p=p:=by unfold fD;split<;>rfl
theorem jb(p q:Rat):eZ p q≤p:=by
 unfold eZ;split
 ·exact Rat.le_refl
 ·rename_i h;have:=mt lZ.2 h;grind
theorem jc(p q:Rat):eZ p q≤q:=by
 unfold eZ;split
 ·rename_i h;exact lZ.1 h
 ·exact Rat.le_refl
theorem ie(p q:Rat):p≤fD p q:=by
 unfold fD;split
 ·exact Rat.le_refl
 ·rename_i h;have:=mt mr.2 h;grind
theorem jA(p q:Rat):q≤fD p q:=by
 unfold fD;split
 ·rename_i h;exact mr.1 h
 ·exact Rat.le_refl
theorem pA{p q:Rat}(h:p≤q):eZ p q=p:=by unfold eZ;rw[if_pos (lZ.2 h)]
theorem vE{p q:Rat}(h:p≤q):fD p q=q:=by
 unfold fD;split
 ·rename_i h2;have:=mr.1 h2;exact Rat.le_antisymm h this
 ·rfl
theorem A3{a p q:Rat}(h:a≤p)(h2:a≤q):a≤eZ p q:=by unfold eZ;split<;>assumption
theorem uL{a p q:Rat}(h:p≤a)(h2:q≤a):fD p q≤a:=by unfold fD;split<;>assumption
namespace QF
theorem Add(p q:Rat)(hp:ht p≤68719476736)(hq:ht q≤68719476736):Cp 91 [(aE p).pv,(aE q).pv] (aE (p+q)).pv:=by
 have h:=qC.Add (aE p) (aE q) ⟨by have:=(aW hp).1;omega,by have:=(aW hp).2;omega⟩ ⟨by have:=(aW hq).1;omega,by have:=(aW hq).2;omega⟩
 rwa[bS,bS] at h
theorem Sub(p q:Rat)(hp:ht p≤68719476736)(hq:ht q≤68719476736):Cp 32 [(aE p).pv,(aE q).pv] (aE (p-q)).pv:=by
 have h:=qC.Sub (aE p) (aE q) ⟨by have:=(aW hp).1;omega,by have:=(aW hp).2;omega⟩ ⟨by have:=(aW hq).1;omega,by have:=(aW hq).2;omega⟩
 rwa[bS,bS] at h
theorem Mul(p q:Rat)(hp:ht p≤68719476736)(hq:ht q≤68719476736):Cp 198 [(aE p).pv,(aE q).pv] (aE (p*q)).pv:=by
 have h:=qC.Mul (aE p) (aE q) ⟨by have:=(aW hp).1;omega,by have:=(aW hp).2;omega⟩ ⟨by have:=(aW hq).1;omega,by have:=(aW hq).2;omega⟩
 rwa[bS,bS] at h
theorem jN(p q:Rat)(hp:ht p≤68719476736)(hq:ht q≤68719476736):Cp 34 [(aE p).pv,(aE q).pv] (vI (dz p q)):=by
 have h:=qC.jN (aE p) (aE q) ⟨by have:=(aW hp).1;omega,by have:=(aW hp).2;omega⟩ ⟨by have:=(aW hq).1;omega,by have:=(aW hq).2;omega⟩
 rwa[bS,bS] at h
theorem Min(p q:Rat)(hp:ht p≤68719476736)(hq:ht q≤68719476736):Cp 282 [(aE p).pv,(aE q).pv] (aE (eZ p q)).pv:=by
 have h:=qC.Min (aE p) (aE q) ⟨by have:=(aW hp).1;omega,by have:=(aW hp).2;omega⟩ ⟨by have:=(aW hq).1;omega,by have:=(aW hq).2;omega⟩
 rwa[bS,bS] at h
theorem Max(p q:Rat)(hp:ht p≤68719476736)(hq:ht q≤68719476736):Cp 283 [(aE p).pv,(aE q).pv] (aE (fD p q)).pv:=by
 have h:=qC.Max (aE p) (aE q) ⟨by have:=(aW hp).1;omega,by have:=(aW hp).2;omega⟩ ⟨by have:=(aW hq).1;omega,by have:=(aW hq).2;omega⟩
 rwa[bS,bS] at h
theorem Div(p q:Rat)(hp:ht p≤68719476736)(hq:ht q≤68719476736)(h0:q≠0):Cp 234 [(aE p).pv,(aE q).pv] (.aB [(aE (p/q)).pv,.aq]):=by
 have h:=qC.Div (aE p) (aE q) (B6 hp) (B6 hq) (by rw[bS];exact h0)
 rwa[bS,bS] at h
theorem Sign(p:Rat)(hp:ht p≤68719476736):Cp 33 [(aE p).pv] (vI (dz p 0)):=by
 have h:=qC.Sign (aE p) (B6 hp)
 rwa[bS] at h
theorem Neg(p:Rat)(hp:ht p≤68719476736):Cp 87 [(aE p).pv] (aE (-p)).pv:=by
 have h:=qC.Neg (aE p) (B6 hp)
 rwa[bS] at h
theorem Valid(p:Rat)(hp:ht p≤68719476736):Cp 164 [(aE p).pv] (vB true):=by
 have h:=qC.Valid (aE p) (B6 hp)
 rwa[rB] at h
theorem mG(p:Rat)(hp:ht p≤68719476736):Cp 91 [(aE p).pv,(⟨false,[],[]⟩:ah).pv] (aE p).pv:=by
 have h:=Add p 0 hp (by decide)
 rwa[Rat.add_zero] at h
end QF
namespace QR
theorem Add(p q:Rat)(hp:ht p≤68719476736)(hq:ht q≤68719476736):Cp 70 [(aE p).pv,(aE q).pv] (aE (p+q)).pv:=by
 have h:=tj.Add (aE p) (aE q) ⟨by have:=(aW hp).1;omega,by have:=(aW hp).2;omega⟩ ⟨by have:=(aW hq).1;omega,by have:=(aW hq).2;omega⟩
 rwa[bS,bS] at h
theorem Sub(p q:Rat)(hp:ht p≤68719476736)(hq:ht q≤68719476736):Cp 143 [(aE p).pv,(aE q).pv] (aE (p-q)).pv:=by
 have h:=tj.Sub (aE p) (aE q) ⟨by have:=(aW hp).1;omega,by have:=(aW hp).2;omega⟩ ⟨by have:=(aW hq).1;omega,by have:=(aW hq).2;omega⟩
 rwa[bS,bS] at h
theorem Mul(p q:Rat)(hp:ht p≤68719476736)(hq:ht q≤68719476736):Cp 245 [(aE p).pv,(aE q).pv] (aE (p*q)).pv:=by
 have h:=tj.Mul (aE p) (aE q) ⟨by have:=(aW hp).1;omega,by have:=(aW hp).2;omega⟩ ⟨by have:=(aW hq).1;omega,by have:=(aW hq).2;omega⟩
 rwa[bS,bS] at h
theorem jN(p q:Rat)(hp:ht p≤68719476736)(hq:ht q≤68719476736):Cp 69 [(aE p).pv,(aE q).pv] (vI (dz p q)):=by
 have h:=tj.jN (aE p) (aE q) ⟨by have:=(aW hp).1;omega,by have:=(aW hp).2;omega⟩ ⟨by have:=(aW hq).1;omega,by have:=(aW hq).2;omega⟩
 rwa[bS,bS] at h
theorem Min(p q:Rat)(hp:ht p≤68719476736)(hq:ht q≤68719476736):Cp 284 [(aE p).pv,(aE q).pv] (aE (eZ p q)).pv:=by
 have h:=tj.Min (aE p) (aE q) ⟨by have:=(aW hp).1;omega,by have:=(aW hp).2;omega⟩ ⟨by have:=(aW hq).1;omega,by have:=(aW hq).2;omega⟩
 rwa[bS,bS] at h
theorem Max(p q:Rat)(hp:ht p≤68719476736)(hq:ht q≤68719476736):Cp 285 [(aE p).pv,(aE q).pv] (aE (fD p q)).pv:=by
 have h:=tj.Max (aE p) (aE q) ⟨by have:=(aW hp).1;omega,by have:=(aW hp).2;omega⟩ ⟨by have:=(aW hq).1;omega,by have:=(aW hq).2;omega⟩
 rwa[bS,bS] at h
theorem Div(p q:Rat)(hp:ht p≤68719476736)(hq:ht q≤68719476736)(h0:q≠0):Cp 148 [(aE p).pv,(aE q).pv] (.aB [(aE (p/q)).pv,vI 0]):=by
 have h:=tj.Div (aE p) (aE q) (B6 hp) (B6 hq) (by rw[bS];exact h0)
 rwa[bS,bS] at h
theorem Sign(p:Rat)(hp:ht p≤68719476736):Cp 124 [(aE p).pv] (vI (dz p 0)):=by
 have h:=tj.Sign (aE p) (B6 hp)
 rwa[bS] at h
theorem Neg(p:Rat)(hp:ht p≤68719476736):Cp 88 [(aE p).pv] (aE (-p)).pv:=by
 have h:=tj.Neg (aE p) (B6 hp)
 rwa[bS] at h
theorem Valid(p:Rat)(hp:ht p≤68719476736):Cp 111 [(aE p).pv] (vB true):=by
 have h:=tj.Valid (aE p) (B6 hp)
 rwa[rB] at h
theorem mG(p:Rat)(hp:ht p≤68719476736):Cp 70 [(aE p).pv,(⟨false,[],[]⟩:ah).pv] (aE p).pv:=by
 have h:=Add p 0 hp (by decide)
 rwa[Rat.add_zero] at h
end QR
theorem QF.Make(n d:Int)(hn:aw n)(hd:aw d)(h0:d≠0):Cp 31 [vI n,vI d] (.aB [(aE (Rat.divInt n d)).pv,.aq]):=by
 have hw:wl n≤2:=oZ (by unfold aw at hn;omega)
 have Cx:wl d≤2:=oZ (by unfold aw at hd;omega)
 have hf:=qC.Iy (Sym.whole n) (Sym.whole d) (show wl _≤_ by omega) (show wl _≤_ by omega) (by rw[aD];exact h0)
 rw[aD,aD] at hf
 exact Bu.e0 n d _ _ _ none (dE.Of n hn) (dE.Of d hd) hf
theorem QF.Ww(p:Rat)(hp:ht p≤68719476736):Cp 235 [(aE p).pv] (aE (if p<0 then -p else p)).pv:=by
 have hs:=QF.Sign p hp
 by_cases h:p<0
 ·rw[if_pos h];exact yI.e0 _ _ _ hs (F0.2 h) (QF.Neg p hp)
 ·rw[if_neg h]
  have hpa:=qC.nc (aE p) (B6 hp)
  rw[bS] at hpa
  have hf:=qC.Ao p.num (p.den:Int) (by have:=js p;omega) (by have:=jO p;omega) (by have:=p.den_nz;omega)
  rw[Rat.num_divInt_den] at hf
  exact yI.e1 _ _ _ _ _ hs (mr.2 (by grind)) hpa hf
theorem QR.Make(n d:Int)(hn:aw n)(hd:aw d)(h0:d≠0):Cp 275 [vI n,vI d] (.aB [(aE (Rat.divInt n d)).pv,vI 0]):=by
 have hw:wl n≤2:=oZ (by unfold aw at hn;omega)
 have Cx:wl d≤2:=oZ (by unfold aw at hd;omega)
 have hf:=tj.Iy (Sym.whole n) (Sym.whole d) (show wl _≤_ by omega) (show wl _≤_ by omega) (by rw[aD];exact h0)
 rw[aD,aD] at hf
 exact vq.e0 n d _ _ _ _ (Am.Of n hn) (Am.Of d hd) hf
theorem QR.Ww(p:Rat)(hp:ht p≤68719476736):Cp 240 [(aE p).pv] (aE (if p<0 then -p else p)).pv:=by
 have hs:=QR.Sign p hp
 by_cases h:p<0
 ·rw[if_pos h];exact r7.e0 _ _ _ hs (F0.2 h) (QR.Neg p hp)
 ·rw[if_neg h];exact r7.e1 _ _ _ hs (mr.2 (by grind)) (QR.mG p hp)
def Ue(a b:ah):Bool:=decide (a.neg=b.neg)&&(decide (a.num=b.num)&&decide (a.den=b.den))
theorem Kd{a b:ah} : Ue a b=true↔a=b:=by
 obtain⟨n,m,d⟩:=a
 obtain⟨n',m',d'⟩:=b
 unfold Ue
 simp only[Bool.and_eq_true,decide_eq_true_eq,ah.mk.injEq]
theorem LC(a:ah):Ue a a=true:=Kd.2 rfl
def Hp:List ah→List ah→Bool
 |[],[]=>true
 |a::r,b::s=>Ue a b&&Hp r s
 |_,_=>false
theorem Ds:∀{p q:List ah},Hp p q=true↔p=q
 |[],[]=>by simp[Hp]
 |a::r,b::s=>by
  show(Ue a b&&Hp r s)=true↔_
  rw[Bool.and_eq_true,Kd,Ds,List.cons.injEq]
 |[],b::s=>by simp[Hp]
 |a::r,[]=>by simp[Hp]
theorem A4(p:List ah):Hp p p=true:=Ds.2 rfl
theorem OB{p q:List ah}(h:p≠q):Hp p q=false:=by
 cases hb:Hp p q with
 |true=>exact absurd (Ds.1 hb) h
 |false=>rfl
namespace PA
theorem Words(a b:Sym.Words)(hl:a.length<9223372036854775807):Cp 149 [ag a,ag b] (vB (decide (a=b))):=by
 by_cases h:a.length=b.length
 ·have loop:∀(j t:Nat),a.length-t=j→t≤a.length→a.take t=b.take t→jr.aj a b t (vB (decide (a=b))):=by
   intro j
   induction j with
   |zero =>
    intro t hj ht he
    rw[List.take_of_length_le (by omega),List.take_of_length_le (by omega)] at he
    rw[decide_eq_true he]
    exact jr.ji a b t (by omega)
   |succ j ih =>
    intro t hj ht he
    obtain⟨v,hv⟩:∃v,a[t]? = some v:=⟨_,List.getElem?_eq_getElem (by omega)⟩
    obtain⟨w,hw⟩:∃w,b[t]? = some w:=⟨_,List.getElem?_eq_getElem (by omega)⟩
    by_cases h0:v.toNat=w.toNat
    ·exact jr.dw a b t v w (by omega) hv hw h0 (by omega) (ih (t+1) (by omega) (by omega) (by rw[List.take_add_one,List.take_add_one,he,hv,hw,Vw h0]))
    ·have dk:a≠b:=by
      intro e;subst e
      rw[hv] at hw;injection hw with hw
      exact h0 (by rw[hw])
     rw[decide_eq_false dk]
     exact jr.l10 a b t v w (by omega) hv hw h0
  exact jr.e1 a b h (loop _ 0 rfl (by omega) rfl)
 ·rw[decide_eq_false (fun e=>h (by rw[e]))]
  exact jr.e0 a b h
theorem Rat(a b:ah)(h1:a.num.length<9223372036854775807)(h2:a.den.length<9223372036854775807):Cp 73 [a.pv,b.pv] (vB (Ue a b)):=by
 unfold Ue
 by_cases hn:a.neg=b.neg
 ·rw[decide_eq_true hn,Bool.true_and]
  have w1:=Words a.num b.num h1
  have w2:=Words a.den b.den h2
  cases hw:decide (a.num=b.num) with
  |true=>rw[Bool.true_and];rw[hw] at w1;exact qc.e0 a b _ _ hn w1 rfl w2
  |false=>rw[Bool.false_and];rw[hw] at w1;exact qc.e1 a b _ hn w1 rfl
 ·rw[decide_eq_false hn,Bool.false_and]
  exact qc.e2 a b hn
theorem To(p q:List ah)(hl:p.length<9223372036854775807)(hf:∀a∈p,a.num.length<9223372036854775807∧a.den.length<9223372036854775807):Cp 108 [ae p,ae q] (vB (Hp p q)):=by
 by_cases h:p.length=q.length
 ·have loop:∀(j t:Nat),p.length-t=j→t≤p.length→p.take t=q.take t→jI.aj p q t (vB (Hp p q)):=by
   intro j
   induction j with
   |zero =>
    intro t hj ht he
    rw[List.take_of_length_le (by omega),List.take_of_length_le (by omega)] at he
    rw[Ds.2 he]
    exact jI.ji p q t (by omega)
   |succ j ih =>
    intro t hj ht he
    obtain⟨v,hv⟩:∃v,p[t]? = some v:=⟨_,List.getElem?_eq_getElem (by omega)⟩
    obtain⟨w,hw⟩:∃w,q[t]? = some w:=⟨_,List.getElem?_eq_getElem (by omega)⟩
    have Sf:=hf v (List.mem_of_getElem? hv)
    have hr:=Rat v w Sf.1 Sf.2
    cases h0:Ue v w with
    |true =>
     rw[h0] at hr
     exact jI.dw p q t v w _ (by omega) hv hw hr rfl (by omega) (ih (t+1) (by omega) (by omega) (by rw[List.take_add_one,List.take_add_one,he,hv,hw,Kd.1 h0]))
    |false =>
     have dk:p≠q:=by
      intro e;subst e
      rw[hv] at hw;injection hw with hw
      rw[hw,LC] at h0;cases h0
     rw[OB dk]
     rw[h0] at hr
     exact jI.l10 p q t v w _ (by omega) hv hw hr rfl
  exact jI.e1 p q h (loop _ 0 rfl (by omega) rfl)
 ·rw[OB (fun e=>h (by rw[e]))]
  exact jI.e0 p q h
theorem Wx(e:Option Int):Cp 17 [bC e] (vI (e.getD 0)):=by
 cases e with
 |none=>exact td.e0
 |some n=>exact td.e1 n
theorem Is(e:Option Int)(code:Int):Cp 36 [bC e,vI code] (vB (e.getD 0==code)):=zE.e0 e code _ (Wx e)
end PA
theorem lP(a:Rat)(r:List Rat):aU (a::r)=bif (aU r).isEmpty&&decide (a=0) then [] else a::aU r:=rfl
theorem tY(a:Rat)(r:List Rat):(aU r=[]∧a=0∧aU (a::r)=[])∨aU (a::r)=a::aU r:=by
 rw[lP]
 cases h:(aU r).isEmpty&&decide (a=0) with
 |false=>exact Or.inr rfl
 |true =>
  rw[Bool.and_eq_true] at h
  exact Or.inl ⟨List.isEmpty_iff.1 h.1,of_decide_eq_true h.2,rfl⟩
theorem lC:∀q:List Rat,(aU q).length≤q.length
 |[]=>by simp[aU]
 |a::r=>by
  rcases tY a r with ⟨_,_,e⟩|e
  ·rw[e];simp
  ·rw[e];simpa using lC r
theorem bj:∀q:List Rat,aJ (aU q)=false
 |[]=>rfl
 |a::r=>by
  have ih:=bj r
  rw[lP]
  cases h:aU r with
  |nil =>
   by_cases h0:a=0
   ·rw[decide_eq_true h0];rfl
   ·rw[decide_eq_false h0]
    unfold aJ
    exact decide_eq_false h0
  |cons b s =>
   rw[h] at ih
   unfold aJ at ih ⊢
   rw[show (bif (b::s).isEmpty&&decide (a=0) then [] else a::b::s)=a::b::s from rfl]
   rw[List.getLast?_cons_cons]
   exact ih
theorem qP:∀{q:List Rat},aJ q=false→aU q=q
 |[],_=>rfl
 |[a],h=>by
  unfold aJ at h
  have h:¬a=0:=of_decide_eq_false h
  rw[lP,decide_eq_false h];rfl
 |a::b::s,h=>by
  unfold aJ at h
  rw[List.getLast?_cons_cons] at h
  have:=qP (q:=b::s) h
  rw[lP,this];rfl
theorem cE{q:List Rat}(h:aJ q=false)(hl:q.length≤65):kN (q.map aE)=0:=by
 unfold kN
 rw[if_neg (by rw[List.length_map];omega),cO,h]
 rw[show (q.map aE).all ah.valid=true from by
  rw[List.all_eq_true]
  intro a ha
  obtain⟨x,_,rfl⟩:=List.mem_map.1 ha
  exact rB x]
 rfl
theorem da(x:Rat):∀q:List Rat,evalL (aU q) x=evalL q x
 |[]=>rfl
 |a::r=>by
  have ih:=da x r
  rcases tY a r with ⟨h1,h2,e⟩|e
  ·rw[e,evalL,evalL,←ih,h1,h2,evalL];grind
  ·rw[e,evalL,evalL,ih]
theorem Na(q:List Rat):(aU q).drop 1=aU (q.drop 1):=by
 cases q with
 |nil=>rfl
 |cons a r =>
  rcases tY a r with ⟨h1,h2,e⟩|e
  ·rw[e];exact h1.symm
  ·rw[e];rfl
theorem Hq:∀(q:List Rat) (i:Nat),aU (ld i (aU q))=aU (ld i q)
 |[],_=>rfl
 |a::r,i=>by
  have ih:=Hq r (i+1)
  rcases tY a r with ⟨h1,h2,e⟩|e
  ·rw[e,ld,ld,lP,←ih,h1,h2]
   rw[show ((i:Int):Rat)*0=0 from by grind];rfl
  ·rw[e,ld,ld,lP,lP,ih]
theorem Bx(q:List Rat):ar (aU q)=ar q:=by
 unfold ar
 rw[Na,Hq]
theorem Iz(q:List Rat)(x:Rat):evalL (ar q) x=evalL (ld 1 (q.drop 1)) x:=by
 unfold ar
 rw[da]
theorem nB(q:List Rat):(ar q).length≤q.length:=by
 unfold ar
 have:=lC (ld 1 (q.drop 1))
 rw[tX,List.length_drop] at this
 omega
theorem bc(q:List Rat):aJ (ar q)=false:=bj _
def coef(p:List Rat)(i:Nat):Rat:=p[i]?.getD 0
def ft:List Rat→List Rat→List Rat
 |[],q=>q
 |a::p,[]=>a::p
 |a::p,b::q=>(a+b)::ft p q
def bn(c:Rat)(q:List Rat):List Rat:=q.map (fun x=>c*x)
def mulL:List Rat→List Rat→List Rat
 |[],_=>[]
 |a::p,q=>ft (bn a q) (0::mulL p q)
def jP(s:Nat)(q:List Rat):List Rat:=List.replicate s 0++q
theorem pB(i:Nat):coef [] i=0:=rfl
theorem qh(a:Rat)(p:List Rat):coef (a::p) 0=a:=rfl
theorem iD(a:Rat)(p:List Rat)(i:Nat):coef (a::p) (i+1)=coef p i:=rfl
theorem sl{p:List Rat}{i:Nat}{v:Rat}(h:p[i]? = some v):coef p i=v:=by unfold coef;rw[h];rfl
theorem gg{p:List Rat}{i:Nat}(h:p.length≤i):coef p i=0:=by unfold coef;rw[List.getElem?_eq_none h];rfl
theorem qQ{p:List Rat}{i:Nat}(h:i<p.length):p[i]? = some (coef p i):=by unfold coef;rw[List.getElem?_eq_getElem h];rfl
theorem km:∀(p q:List Rat) (i:Nat),coef (ft p q) i=coef p i+coef q i
 |[],q,i=>by rw[ft,pB,Rat.zero_add]
 |a::p,[],i=>by rw[ft,pB,Rat.add_zero]
 |a::p,b::q,0=>rfl
 |a::p,b::q,i+1=>by rw[ft,iD,iD,iD,km p q i]
theorem ck(c:Rat)(q:List Rat)(i:Nat):coef (bn c q) i=c*coef q i:=by
 unfold coef bn
 rw[List.getElem?_map]
 cases q[i]? with
 |none=>show(0:Rat)=c*0;rw[Rat.mul_zero]
 |some v=>rfl
theorem oB(a:Rat)(p q:List Rat)(i:Nat):coef (mulL (a::p) q) i=a*coef q i+coef (0::mulL p q) i:=by rw[mulL,km,ck]
theorem nC(s:Nat)(q:List Rat)(i:Nat):coef (jP s q) i=if i<s then 0 else coef q (i-s):=by
 unfold coef jP
 split
 ·rename_i h
  rw[List.getElem?_append_left (by rw[List.length_replicate];exact h),List.getElem?_replicate,if_pos h];rfl
 ·rename_i h
  rw[List.getElem?_append_right (by rw[List.length_replicate];omega),List.length_replicate]
theorem Hr:∀(p q:List Rat),(ft p q).length=max p.length q.length
 |[],q=>by rw[ft,List.length_nil,Nat.zero_max]
 |a::p,[]=>by rw[ft,List.length_nil,Nat.max_zero]
 |a::p,b::q=>by rw[ft,List.length_cons,List.length_cons,List.length_cons,Hr p q];omega
theorem jY(c:Rat)(q:List Rat):(bn c q).length=q.length:=List.length_map ..
theorem oC:∀{p q:List Rat},(∀i,coef p i=coef q i)→aU p=aU q
 |[],[],_=>rfl
 |[],b::q,h=>by
  have h0:(0:Rat)=b:=h 0
  have:=oC (p:=[]) (q:=q) (fun i=>h (i+1))
  rw[lP,←this,←h0];rfl
 |a::p,[],h=>by
  have h0:a=(0:Rat):=h 0
  have:=oC (p:=p) (q:=[]) (fun i=>h (i+1))
  rw[lP,this,h0];rfl
 |a::p,b::q,h=>by
  have h0:a=b:=h 0
  rw[lP,lP,oC (p:=p) (q:=q) (fun i=>h (i+1)),h0]
theorem dV:∀(p:List Rat) (i:Nat),coef (aU p) i=coef p i
 |[],_=>rfl
 |a::r,i=>by
  rcases tY a r with ⟨h1,h2,e⟩|e
  ·rw[e]
   cases i with
   |zero=>exact h2.symm
   |succ i=>rw[iD,←dV r i,h1,pB,pB]
  ·rw[e]
   cases i with
   |zero=>rfl
   |succ i=>rw[iD,iD,dV r i]
theorem jQ{p q:List Rat}(hp:aJ p=false)(hq:aJ q=false)(h:∀i,coef p i=coef q i):p=q:=by
 rw[←qP hp,←qP hq];exact oC h
theorem cu(x:Rat):∀(p q:List Rat),evalL (ft p q) x=evalL p x+evalL q x
 |[],q=>by rw[ft,evalL,Rat.zero_add]
 |a::p,[]=>by rw[ft,show evalL [] x=0 from rfl,Rat.add_zero]
 |a::p,b::q=>by rw[ft,evalL,evalL,evalL,cu x p q];grind
theorem bN(c x:Rat):∀(q:List Rat),evalL (bn c q) x=c*evalL q x
 |[]=>by show(0:Rat)=c*0;rw[Rat.mul_zero]
 |a::q=>by
  have:=bN c x q
  show evalL (bn c q) x*x+c*a=c*(evalL q x*x+a)
  rw[this];grind
theorem aO(x:Rat):∀(p q:List Rat),evalL (mulL p q) x=evalL p x*evalL q x
 |[],q=>by show(0:Rat)=0*_;rw[Rat.zero_mul]
 |a::p,q=>by
  rw[mulL,cu,bN,evalL,aO x p q,evalL];grind
theorem uM(x:Rat):∀(s:Nat) (q:List Rat),evalL (jP s q) x=x^s*evalL q x
 |0,q=>by show evalL q x=_;rw[Rat.pow_zero,Rat.one_mul]
 |s+1,q=>by
  have:=uM x s q
  show evalL (jP s q) x*x+0=_
  rw[this,Rat.pow_succ];grind
def LD(c:Rat):List Rat→List Rat
 |[]=>[]
 |[_]=>[]
 |_::b::r=>evalL (b::r) c::LD c (b::r)
theorem LF(c:Rat):∀p:List Rat,(LD c p).length=p.length-1
 |[]=>rfl
 |[_]=>rfl
 |_::b::r=>by rw[LD,List.length_cons,LF c (b::r)];simp
theorem Jg(c x:Rat):∀p:List Rat,evalL p x=evalL p c+(x-c)*evalL (LD c p) x
 |[]=>by show(0:Rat)=0+(x-c)*0;grind
 |[a]=>by show 0*x+a=(0*c+a)+(x-c)*0;grind
 |a::b::r=>by
  have:=Jg c x (b::r)
  rw[LD]
  show evalL (b::r) x*x+a=(evalL (b::r) c*c+a)+(x-c)*(evalL (LD c (b::r)) x*x+evalL (b::r) c)
  rw[this]
  grind
theorem Jh(c:Rat):∀p:List Rat,evalL p c=0→(∀y∈LD c p,y=0)→∀y∈p,y=0
 |[],_,_=>fun y h=>by cases h
 |[a],h,_=>fun y hy=>by
  have h:0*c+a=0:=h
  rw[List.mem_singleton.1 hy];grind
 |a::b::r,h,hq=>fun y hy=>by
  rw[LD] at hq
  have h1:=hq _ (List.mem_cons_self ..)
  have ih:=Jh c (b::r) h1 (fun z hz=>hq z (List.mem_cons_of_mem _ hz))
  rcases List.mem_cons.1 hy with e|hy
  ·rw[evalL,h1] at h
   rw[e];grind
  ·exact ih y hy
theorem Ji:∀(n:Nat) (p:List Rat) (N:Nat),p.length≤n→(∀m:Nat,N≤m→evalL p ((m:Int):Rat)=0)→∀y∈p,y=0
 |0,p,N,hl,_=>fun y hy=>by
  have:p=[]:=List.eq_nil_of_length_eq_zero (by omega)
  rw[this] at hy;cases hy
 |n+1,p,N,hl,h=>by
  have h0:=h N (Nat.le_refl _)
  refine Jh _ p h0 (Ji n _ (N+1) (by rw[LF];omega) (fun m hm => ?_))
  have h1:=h m (by omega)
  rw[Jg ((N:Int):Rat) _ p,h0,Rat.zero_add] at h1
  rcases Rat.mul_eq_zero.1 h1 with e|e
  ·have:((m:Int):Rat)=((N:Int):Rat):=by grind
   have:=Rat.intCast_inj.1 this
   omega
  ·exact e
theorem RC{p:List Rat}(h:∀y∈p,y=0)(i:Nat):coef p i=0:=by
 unfold coef
 cases hv:p[i]? with
 |none=>rfl
 |some v=>exact h v (List.mem_of_getElem? hv)
theorem ko{p q:List Rat}(h:∀x,evalL p x=evalL q x)(i:Nat):coef p i=coef q i:=by
 have hz:=Ji _ (ft p (bn (-1) q)) 0 (Nat.le_refl _) (fun m _=>by rw[cu,bN,h];grind)
 have:=RC hz i
 rw[km,ck] at this
 grind
theorem xU{p q:List Rat}(h:∀x,evalL p x=evalL q x):aU p=aU q:=oC (ko h)
theorem IA(p q:List Rat)(i:Nat):coef (mulL p q) i=coef (mulL q p) i:=ko (fun x=>by rw[aO,aO,Rat.mul_comm]) i
theorem IB{p:List Rat}{t:Nat}{v:Rat}(h:p[t]? = some v)(q:List Rat)(i:Nat):coef (mulL (p.take (t+1)) q) i=coef (mulL (p.take t) q) i+coef (jP t (bn v q)) i:=by
 have hl:=(List.getElem?_eq_some_iff.1 h).1
 have key:∀x,evalL (mulL (p.take (t+1)) q) x=evalL (ft (mulL (p.take t) q) (jP t (bn v q))) x:=by
  intro x
  rw[cu,aO,aO,uM,bN,List.take_add_one,h]
  have:∀(l:List Rat),evalL (l++[v]) x=evalL l x+x^l.length*v:=by
   intro l
   induction l with
   |nil=>show 0*x+v=0+x^0*v;rw[Rat.pow_zero];grind
   |cons a l ih =>
    rw[List.cons_append,evalL,evalL,ih,List.length_cons,Rat.pow_succ];grind
  show evalL (p.take t++[v]) x*_=_
  rw[this,List.length_take,Nat.min_eq_left (by omega)]
  grind
 rw[←km]
 exact ko key i
theorem Ap{k m:Nat} : ∀(p q:List Rat) (i:Nat),(∀i,ht (coef p i)≤k)→(∀i,ht (coef q i)≤m)→ht (coef (mulL p q) i)≤p.length*(k+m+1)+1
 |[],q,i,_,_=>Nat.le_trans (Nat.le_of_eq jF) (by omega)
 |a::p,q,i,hp,hq=>by
  have ih:=fun i=>Ap (k:=k) (m:=m) p q i
  have h1:=dP a (coef q i)
  have h2:=hp 0
  rw[qh] at h2
  have h3:=hq i
  rw[oB,List.length_cons,Nat.add_mul]
  have h4:=jg (a*coef q i) (coef (0::mulL p q) i)
  have h5:ht (coef (0::mulL p q) i)≤p.length*(k+m+1)+1:=by
   cases i with
   |zero=>rw[qh,jF];omega
   |succ i=>rw[iD];exact ih i (fun j=>hp (j+1)) hq
  omega
theorem nT{k:Nat}{p:List Rat}(h:Fl k p)(hk:1≤k)(i:Nat):ht (coef p i)≤k:=by
 unfold coef
 cases hv:p[i]? with
 |none=>exact Nat.le_trans (Nat.le_of_eq jF) hk
 |some v=>exact h v (List.mem_of_getElem? hv)
theorem pC{k:Nat}{p:List Rat}(h:∀i,ht (coef p i)≤k):Fl k p:=by
 intro x hx
 obtain⟨i,hi⟩:=List.mem_iff_getElem?.1 hx
 have:=h i
 rwa[sl hi] at this
theorem cL{k m:Nat}{q:List Rat}(h:Fl k q)(hk:k≤m):Fl m q:=fun x hx=>Nat.le_trans (h x hx) hk
def pD(m:Nat)(g:Nat→Rat):List Rat:=(List.range m).map g
theorem fZ(m:Nat)(g:Nat→Rat):(pD m g).length=m:=by unfold pD;rw[List.length_map,List.length_range]
theorem lQ{m i:Nat}(g:Nat→Rat)(h:i<m):(pD m g)[i]? = some (g i):=by
 unfold pD;rw[List.getElem?_map,List.getElem?_range h];rfl
theorem RD{m i:Nat}(g:Nat→Rat)(v:Rat)(h:i<m):(pD m g).set i v=pD m (fun j=>if j=i then v else g j):=by
 refine List.ext_getElem? fun j => ?_
 by_cases hj:j<m
 ·rw[lQ _ hj]
  by_cases e:j=i
  ·subst e
   rw[List.getElem?_set_self (by rw[fZ];exact h),if_pos rfl]
  ·rw[List.getElem?_set_ne (by omega),lQ _ hj,if_neg e]
 ·rw[List.getElem?_eq_none (by rw[List.length_set,fZ];omega),List.getElem?_eq_none (by rw[fZ];omega)]
theorem Er(m:Nat):List.replicate m (⟨false,[],[]⟩:ah)=(pD m (fun _=>0)).map aE:=by
 refine List.ext_getElem? fun j => ?_
 rw[List.getElem?_map]
 by_cases hj:j<m
 ·rw[lQ _ hj,List.getElem?_replicate,if_pos hj];rfl
 ·rw[List.getElem?_eq_none (by rw[List.length_replicate];omega),List.getElem?_eq_none (by rw[fZ];omega)];rfl
theorem A5{m:Nat}{g:Nat→Rat}(h:∀i,m≤i→g i=0)(i:Nat):coef (pD m g) i=g i:=by
 by_cases hi:i<m
 ·exact sl (lQ g hi)
 ·rw[gg (by rw[fZ];omega),h i (by omega)]
theorem B7{m:Nat}{f g:Nat→Rat}(h:∀i,i<m→f i=g i):pD m f=pD m g:=by
 unfold pD
 exact List.map_congr_left (fun i hi=>h i (List.mem_range.1 hi))
def cb(p:List Rat):Rat:=coef p (p.length-1)
theorem eH{p:List Rat}(hz:aJ p=false)(h:p≠[]):cb p≠0:=by
 unfold aJ at hz
 have hl:=List.length_pos_iff.2 h
 rw[List.getLast?_eq_getElem?,qQ (p:=p) (i:=p.length-1) (by omega)] at hz
 exact of_decide_eq_false hz
theorem wY{p:List Rat}{n:Nat}(h:∀i,n≤i→coef p i=0):(aU p).length≤n:=by
 refine Nat.le_of_not_lt fun bH => ?_
 have dk:aU p≠[]:=by intro e;rw[e] at bH;simp at bH
 have:=eH (bj p) dk
 unfold cb at this
 rw[dV,h _ (by omega)] at this
 exact this rfl
def stepC(rest q:List Rat):Rat:=cb rest/cb q
def sP(rest q:List Rat):List Rat:=aU (ft rest (jP (rest.length-q.length) (bn (-(stepC rest q)) q)))
def uz:Nat→List Rat→List Rat→List Rat→List Rat×List Rat
 |0,out,rest,_=>(out,rest)
 |n+1,out,rest,q=>bif Nat.blt rest.length q.length then (out,rest) else uz n (aU (ft out (jP (rest.length-q.length) [stepC rest q]))) (sP rest q) q
def et(p q:List Rat):List Rat×List Rat:=uz (p.length+1) [] (aU p) q
def a7(p q:List Rat):List Rat:=(et p q).2
def cr(p:List Rat):List Rat:=aU (bn (1/cb p) p)
def fa:Nat→List Rat→List Rat→List Rat
 |0,p,_=>p
 |n+1,p,q=>bif Nat.beq q.length 0 then p else fa n q (cr (a7 p q))
def bF(p q:List Rat):List Rat:=cr (fa (q.length+1) p q)
def aM(p:List Rat):List Rat:=cr (et p (bF p (ar p))).1
theorem Dt{a b:Nat} : Nat.blt a b=true↔a<b:=by rw[Nat.blt_eq]
theorem A6{a b:Nat} : Nat.blt a b=false↔b≤a:=by
 constructor
 ·intro h;exact Nat.le_of_not_lt fun e=>by rw[Dt.2 e] at h;cases h
 ·intro h
  cases hb:Nat.blt a b with
  |true=>have:=Dt.1 hb;omega
  |false=>rfl
theorem Jj{rest q:List Rat}(hq:cb q≠0):stepC rest q*cb q=cb rest:=by
 unfold stepC
 rw[Rat.div_mul_cancel hq]
theorem uU{rest q:List Rat}(hq:cb q≠0)(sL:q.length≠0)(hl:q.length≤rest.length):(sP rest q).length<rest.length:=by
 have h:=wY (p:=ft rest (jP (rest.length-q.length) (bn (-(stepC rest q)) q))) (n:=rest.length-1) (fun i hi=>by
  rw[km,nC,ck,if_neg (by omega)]
  by_cases e:i=rest.length-1
  ·have h1:=Jj (rest:=rest) hq
   unfold cb at h1
   rw[e,show rest.length-1-(rest.length-q.length)=q.length-1 from by omega]
   grind
  ·rw[gg (p:=rest) (by omega),gg (p:=q) (by omega)];grind)
 unfold sP
 omega
theorem Nb(rest q:List Rat)(x:Rat):evalL (sP rest q) x=evalL rest x-x^(rest.length-q.length)*stepC rest q*evalL q x:=by
 unfold sP
 rw[da,cu,uM,bN];grind
theorem Jk{q:List Rat}(hq:cb q≠0)(sL:q.length≠0):∀(n:Nat) (out rest:List Rat),rest.length<n →
  (uz n out rest q).2.length<q.length∧∀x,evalL (uz n out rest q).1 x*evalL q x+evalL (uz n out rest q).2 x=evalL out x*evalL q x+evalL rest x
 |0,out,rest,h=>by omega
 |n+1,out,rest,h=>by
  rw[uz]
  cases hb:Nat.blt rest.length q.length with
  |true=>exact⟨Dt.1 hb,fun x=>rfl⟩
  |false =>
   have hl:=A6.1 hb
   have h1:=uU hq sL hl
   rw[cond_false]
   obtain⟨g1,g2⟩:=Jk hq sL n (aU (ft out (jP (rest.length-q.length) [stepC rest q]))) (sP rest q) (by omega)
   refine⟨g1,fun x => ?_⟩
   rw[g2 x,Nb,da,cu,uM]
   have:evalL [stepC rest q] x=stepC rest q:=by show 0*x+stepC rest q=stepC rest q;grind
   rw[this];grind
theorem Jl{q:List Rat} : ∀(n:Nat) (out rest:List Rat),aJ out=false→aJ rest=false→aJ (uz n out rest q).1=false∧aJ (uz n out rest q).2=false
 |0,out,rest,h1,h2=>⟨h1,h2⟩
 |n+1,out,rest,h1,h2=>by
  rw[uz]
  cases Nat.blt rest.length q.length with
  |true=>exact⟨h1,h2⟩
  |false=>exact Jl n _ _ (bj _) (bj _)
theorem eE{q:List Rat}(p:List Rat)(hz:aJ q=false)(sL:q≠[]):(et p q).2.length<q.length∧∀x,evalL (et p q).1 x*evalL q x+evalL (et p q).2 x=evalL p x:=by
 have hl:=List.length_pos_iff.2 sL
 obtain⟨g1,g2⟩:=Jk (eH hz sL) (by omega) (p.length+1) [] (aU p) (by have:=lC p;omega)
 refine⟨g1,fun x => ?_⟩
 show evalL (uz _ _ _ _).1 x*_+evalL (uz _ _ _ _).2 x=_
 rw[g2 x,da]
 show(0:Rat)*_+_=_
 grind
theorem me(p q:List Rat):aJ (et p q).1=false∧aJ (et p q).2=false:=Jl _ _ _ rfl (bj _)
theorem nU:∀(p q:List Rat),p≠[]→q≠[]→coef (mulL p q) (p.length+q.length-2)=cb p*cb q
 |[],q,h,_=>absurd rfl h
 |[a],q,_,hq=>by
  have hl:=List.length_pos_iff.2 hq
  rw[oB]
  show a*coef q ([a].length+q.length-2)+coef [0] _=a*coef q (q.length-1)
  rw[show [a].length+q.length-2=q.length-1 from by simp;omega]
  have:coef [0] (q.length-1)=0:=by
   cases q.length-1 with
   |zero=>rfl
   |succ n=>rfl
  rw[this,Rat.add_zero]
 |a::b::r,q,_,hq=>by
  have hl:=List.length_pos_iff.2 hq
  have ih:=nU (b::r) q (by simp) hq
  rw[oB,gg (p:=q) (by simp;omega)]
  rw[show (a::b::r).length+q.length-2=((b::r).length+q.length-2)+1 from by simp;omega,iD,ih]
  have:cb (a::b::r)=cb (b::r):=by
   unfold cb
   rw[show (a::b::r).length-1=((b::r).length-1)+1 from by simp,iD]
  rw[this];grind
theorem Aq{p:List Rat}{i:Nat}(h:coef p i≠0):i<p.length:=by
 refine Nat.lt_of_not_le fun e=>h (gg e)
theorem qR{p q a r:List Rat}(hz:aJ q=false)(sL:q≠[])(ha:aJ a=false)(hr:aJ r=false)(hl:r.length<q.length)(h:∀x,evalL a x*evalL q x+evalL r x=evalL p x):et p q=(a,r):=by
 obtain⟨g1,g2⟩:=eE p hz sL
 obtain⟨t1,t2⟩:=me p q
 have ea:(et p q).1=a:=by
  refine jQ t1 ha (fun i => ?_)
  have key:aU (ft (et p q).1 (bn (-1) a))=[]:=by
   refine Classical.byContradiction fun dk => ?_
   have h1:=nU _ q dk sL
   have h2:cb (aU (ft (et p q).1 (bn (-1) a)))*cb q≠0:=by
    intro e
    rcases Rat.mul_eq_zero.1 e with e|e
    ·exact eH (bj _) dk e
    ·exact eH hz sL e
   have h3:=ko (p:=mulL (aU (ft (et p q).1 (bn (-1) a))) q) (q:=ft r (bn (-1) (et p q).2)) (fun x=>by
    have:=g2 x
    have:=h x
    rw[aO,da,cu,bN,cu,bN];grind) ((aU (ft (et p q).1 (bn (-1) a))).length+q.length-2)
   rw[h1,km,ck] at h3
   have hp:=List.length_pos_iff.2 dk
   rw[gg (p:=r) (by omega),gg (p:=(et p q).2) (by omega)] at h3
   exact h2 (by rw[h3];grind)
  have:=dV (ft (et p q).1 (bn (-1) a)) i
  rw[key,km,ck,pB] at this
  grind
 have er:(et p q).2=r:=by
  refine jQ t2 hr (ko (fun x => ?_))
  have h1:=g2 x
  have h2:=h x
  rw[ea] at h1
  grind
 exact Prod.ext ea er
theorem gM{p:List Rat} : aJ p=false→∀c,c≠0→aJ (bn c p)=false:=by
 intro hz c hc
 by_cases h:p=[]
 ·subst h;rfl
 ·have:=eH hz h
  unfold cb at this
  unfold aJ
  have hl:=List.length_pos_iff.2 h
  rw[List.getLast?_eq_getElem?,jY,qQ (by rw[jY];omega),ck]
  show decide (c*_=0)=false
  refine decide_eq_false (fun e => ?_)
  rcases Rat.mul_eq_zero.1 e with e|e
  ·exact hc e
  ·exact this e
theorem vF{c:Rat}(h:c≠0):1/c≠0:=by
 intro e
 have:=Rat.div_mul_cancel (a:=1) h
 rw[e,Rat.zero_mul] at this
 exact absurd this (by decide)
theorem oD{p:List Rat}(hz:aJ p=false)(h:p≠[]):cr p=bn (1/cb p) p:=by
 unfold cr
 exact qP (gM hz _ (vF (eH hz h)))
theorem bO(p:List Rat):aJ (cr p)=false:=bj _
theorem aY{p:List Rat}(hz:aJ p=false):(cr p).length=p.length:=by
 by_cases h:p=[]
 ·subst h;rfl
 ·rw[oD hz h,jY]
theorem nD{p:List Rat}(x:Rat):evalL (cr p) x=1/cb p*evalL p x:=by
 unfold cr
 rw[da,bN]
theorem nh{p:List Rat}(hz:aJ p=false)(h:p≠[]):cr p≠[]:=by
 intro e
 have:=aY hz
 rw[e] at this
 exact h (List.eq_nil_of_length_eq_zero this.symm)
theorem E7{p:List Rat}{c:Rat}(hz:aJ p=false)(hc:c≠0):cr (bn c p)=cr p:=by
 by_cases h:p=[]
 ·subst h;rfl
 ·have ht:=eH hz h
  have e:cb (bn c p)=c*cb p:=by unfold cb;rw[jY,ck]
  refine jQ (bO _) (bO _) (ko (fun x => ?_))
  rw[nD,nD,e,bN]
  have h1:=Rat.div_mul_cancel (a:=1) ht
  have hct:c*cb p≠0:=fun e=>by rcases Rat.mul_eq_zero.1 e with e|e;exact hc e;exact ht e
  have h2:=Rat.div_mul_cancel (a:=1) hct
  have h3:1/(c*cb p)*c=1/cb p:=by
   have:(1/(c*cb p)*c-1/cb p)*cb p=0:=by grind
   rcases Rat.mul_eq_zero.1 this with e|e
   ·grind
   ·exact absurd e ht
  grind
theorem wZ{p:List Rat}(hz:aJ p=false):cr (cr p)=cr p:=by
 by_cases h:p=[]
 ·subst h;rfl
 ·rw[oD hz h,E7 hz (vF (eH hz h)),oD hz h]
theorem uV{p q:List Rat}{a b:Rat}(hz:aJ q=false)(hq:q≠[])(ha:a≠0)(hb:b≠0):a7 (bn a p) (bn b q)=bn a (a7 p q):=by
 obtain⟨g1,g2⟩:=eE p hz hq
 obtain⟨t1,t2⟩:=me p q
 have dK:a/b≠0:=by
  intro e
  have:=Rat.div_mul_cancel (a:=a) hb
  rw[e,Rat.zero_mul] at this
  exact ha this.symm
 have:=qR (p:=bn a p) (q:=bn b q) (a:=bn (a/b) (et p q).1) (r:=bn a (et p q).2) (gM hz b hb) (by
  intro e;have:=congrArg List.length e;rw[jY] at this;exact hq (List.eq_nil_of_length_eq_zero this)) (gM t1 _ dK) (gM t2 _ ha) (by rw[jY,jY];exact g1) (fun x=>by
  have h1:=g2 x
  have h2:=Rat.div_mul_cancel (a:=a) hb
  rw[bN,bN,bN,bN,←h1]
  grind)
 unfold a7
 rw[this]
theorem b8(p q:List Rat):aJ (a7 p q)=false:=(me p q).2
theorem xV(q:List Rat):bn 1 q=q:=by
 unfold bn
 conv=>rhs;rw[←List.map_id q]
 exact List.map_congr_left (fun x _=>Rat.one_mul x)
theorem Hs{p q:List Rat}(hp:aJ p=false)(hq:aJ q=false)(h:q≠[]):cr (a7 (cr p) q)=cr (a7 p q):=by
 by_cases mc:p=[]
 ·subst mc;rfl
 ·rw[oD hp mc]
  have:=uV (p:=p) (a:=1/cb p) (b:=1) hq h (vF (eH hp mc)) (by decide)
  rw[xV] at this
  rw[this,E7 (b8 _ _) (vF (eH hp mc))]
theorem LG{p q:List Rat}(hp:aJ p=false)(hq:aJ q=false)(h:q≠[]):cr (a7 (cr p) (cr q))=cr (a7 p q):=by
 have e:a7 p (cr q)=a7 p q:=by
  rw[oD hq h]
  have:=uV (p:=p) (a:=1) (b:=1/cb q) hq h (by decide) (vF (eH hq h))
  rwa[xV,xV] at this
 rw[Hs hp (bO _) (nh hq h),e]
theorem Ht:∀(n:Nat) (p q:List Rat),aJ p=false→aJ q=false→cr q=q→fa n (cr p) q=cr (fa n p q)
 |0,p,q,_,_,_=>rfl
 |n+1,p,q,hp,hq,hm=>by
  rw[fa,fa]
  by_cases h:q.length=0
  ·rw[beq_iff.2 h,cond_true,cond_true]
  ·have dk:q≠[]:=fun e=>h (by rw[e];rfl)
   rw[eL.2 h,cond_false,cond_false,Hs hp hq dk]
   have ih:=Ht n q (cr (a7 p q)) hq (bO _) (wZ (b8 _ _))
   rwa[hm] at ih
theorem Du(p q:List Rat)(hp:aJ p=false)(hq:aJ q=false):fa (q.length+1) (cr p) (cr q)=bF p q:=by
 unfold bF
 rw[fa,fa,aY hq]
 by_cases h:q.length=0
 ·rw[beq_iff.2 h,cond_true,cond_true]
 ·have dk:q≠[]:=fun e=>h (by rw[e];rfl)
  rw[eL.2 h,cond_false,cond_false,LG hp hq dk]
  exact Ht _ q _ hq (bO _) (wZ (b8 _ _))
theorem kO:∀(n:Nat) (p q:List Rat),aJ p=false→aJ q=false→aJ (fa n p q)=false
 |0,p,q,hp,_=>hp
 |n+1,p,q,hp,hq=>by
  rw[fa]
  cases Nat.beq q.length 0 with
  |true=>exact hp
  |false=>exact kO n _ _ hq (bO _)
theorem gD(p q:List Rat):aJ (bF p q)=false:=bO _
theorem tI:∀(n:Nat) (p q:List Rat),p≠[]∨(q≠[]∧0<n)→fa n p q≠[]
 |0,p,q,h=>by rcases h with h|⟨_,h⟩;exact h;omega
 |n+1,p,q,h=>by
  rw[fa]
  by_cases hq:q.length=0
  ·rw[beq_iff.2 hq,cond_true]
   rcases h with h|⟨h,_⟩
   ·exact h
   ·exact absurd (List.eq_nil_of_length_eq_zero hq) h
  ·rw[eL.2 hq,cond_false]
   exact tI n q _ (Or.inl (fun e=>hq (by rw[e];rfl)))
theorem F4{p:List Rat}(q:List Rat)(hp:aJ p=false)(hq:aJ q=false)(h:p≠[]):bF p q≠[]:=nh (kO _ _ _ hp hq) (tI _ _ _ (Or.inl h))
end Go.Proofs.YtllmkadmohkbfaaGreatDoor.Sym
