/- Lemmas for the statements of this seat. -/
import Derived.Test.YtllmkadmohkbfaaGreatDoorH2
import Derived.Test.YtllmkadmohkbfaaGreatDoorQ2
import Derived.Test.YtllmkadmohkbfaaGreatDoorQ3
namespace Go.Proofs.YtllmkadmohkbfaaGreatDoor.Sym
open Go Path cP
set_option linter.unusedVariables false
def bI(p:List af):List Rat:=p.map af.val
abbrev lh(k:Nat)(p:List af):Prop:=∀a∈p,a.num.length≤k∧a.den.length≤k
abbrev Fl(k:Nat)(q:List Rat):Prop:=∀x∈q,ht x≤k
def aL:List Rat→List Rat
 |[]=>[]
 |a::r=>bif (aL r).isEmpty&&decide (a=0) then [] else a::aL r
theorem sk:∀q:List Rat,aL (q++[0])=aL q
 |[]=>rfl
 |a::r=>by
  show(bif (aL (r++[0])).isEmpty&&decide (a=0) then [] else a::aL (r++[0]))=_
  rw[sk r];rfl
theorem w7{v:Rat}(h:v≠0):∀{q:List Rat},aL (q++[v])=q++[v]
 |[]=>by
  show(bif (aL []).isEmpty&&decide (v=0) then [] else v::aL [])=[v]
  rw[decide_eq_false h,Bool.and_false];rfl
 |a::r=>by
  show(bif (aL (r++[v])).isEmpty&&decide (a=0) then [] else a::aL (r++[v]))=_
  rw[w7 h]
  cases r<;>rfl
theorem EO{α:Type}{q:List α}{n:Nat}{v:α}(h:q[n]? = some v)(hl:q.length=n+1):q=q.take n++[v]:=by
 have:=List.take_add_one (l:=q) (i:=n)
 rw[h,List.take_of_length_le (by omega)] at this
 exact this
theorem sl{k:Nat}{p:List af}(h:lh k p)(hk:1≤k):Fl k (bI p):=by
 intro x hx
 unfold bI at hx
 obtain⟨a,ha,rfl⟩:=List.mem_map.1 hx
 exact dU (h a ha).1 (h a ha).2 hk
theorem Ap{q:List Rat}(h:Fl 274877906944 q):lh 274877906944 (q.map aJ):=by
 intro a ha
 obtain⟨x,hx,rfl⟩:=List.mem_map.1 ha
 exact iS (h x hx)
theorem aZ{q:Rat}{k:Nat}(h:ht q≤k):(aJ q).num.length≤k∧(aJ q).den.length≤k:=by
 by_cases h0:q=0
 ·subst h0;constructor<;>simp[rf]
 ·rw[sf h0]
  exact⟨Nat.le_trans (eF q) h,Nat.le_trans (eP q) h⟩
theorem iz{q:List Rat}{k:Nat}(h:Fl k q):lh k (q.map aJ):=by
 intro a ha
 obtain⟨x,hx,rfl⟩:=List.mem_map.1 ha
 exact aZ (h x hx)
theorem eS(q:List Rat):bI (q.map aJ)=q:=by
 unfold bI
 rw[List.map_map]
 conv=>rhs;rw[←List.map_id q]
 exact List.map_congr_left (fun x _=>bl x)
theorem JG{p:List af}(h:p.all af.valid=true):(bI p).map aJ=p:=by
 unfold bI
 rw[List.map_map]
 conv=>rhs;rw[←List.map_id p]
 exact List.map_congr_left (fun x hx=>yc (List.all_eq_true.1 h x hx))
theorem Dz{p:List af}{n:Nat}{v:af}(h:p[n]? = some v):(bI p).drop n=v.val::(bI p).drop (n+1):=by
 obtain⟨h1,h2⟩:=List.getElem?_eq_some_iff.1 h
 unfold bI
 rw[List.drop_eq_getElem_cons (by simpa using h1),List.getElem_map,h2]
def aK(q:List Rat):Bool:=match q.getLast? with
 |none=>false
 |some v=>decide (v=0)
theorem BS{p:List af}(h:aK (bI p)=true):∃v,0<p.length∧p[p.length-1]? = some v∧v.val=0:=by
 unfold aK bI at h
 rw[List.getLast?_map,List.getLast?_eq_getElem?] at h
 cases hv:p[p.length-1]? with
 |none=>rw[hv] at h;cases h
 |some v =>
  rw[hv] at h
  have h:decide (v.val=0)=true:=h
  exact⟨v,by have:=(List.getElem?_eq_some_iff.1 hv).1;omega,rfl,of_decide_eq_true h⟩
theorem zl{p:List af}(h:aK (bI p)=false)(h0:p.length≠0):∃v,p[p.length-1]? = some v∧v.val≠0:=by
 unfold aK bI at h
 rw[List.getLast?_map,List.getLast?_eq_getElem?] at h
 obtain⟨v,hv⟩:∃v,p[p.length-1]? = some v:=⟨_,List.getElem?_eq_getElem (by omega)⟩
 rw[hv] at h
 have h:decide (v.val=0)=false:=h
 exact⟨v,hv,of_decide_eq_false h⟩
def py(p:List af):Int:=if 65<p.length then 4 else bif p.all af.valid then (bif aK (bI p) then 8 else 0) else 2
def pc(n:Int):Option Int:=if n=0 then none else some n
theorem jO{n:Int}(h:n≠0):pc n=some n:=if_neg h
theorem Aq{p:List af}(h:py p=0):p.length≤65:=by
 unfold py at h
 split at h
 ·cases h
 ·omega
theorem DA{p:List af}(h:py p=0):p.all af.valid=true:=by
 unfold py at h
 split at h
 ·cases h
 ·cases hv:p.all af.valid with
  |true=>rfl
  |false=>rw[hv] at h;cases h
theorem MY{p:List af}(h:py p=0):aK (bI p)=false:=by
 unfold py at h
 split at h
 ·cases h
 ·cases hv:p.all af.valid with
  |false=>rw[hv] at h;cases h
  |true =>
   rw[hv] at h
   cases hz:aK (bI p) with
   |false=>rfl
   |true=>rw[hz] at h;cases h
def evalL:List Rat→Rat→Rat
 |[],_=>0
 |a::r,x=>evalL r x*x+a
theorem nh(q:List Rat)(x:Rat)(k:Nat)(h:Fl k q)(hx:ht x≤k):ht (evalL q x)≤q.length*(2*k+1)+1:=by
 induction q with
 |nil =>
  have:ht (evalL [] x)=1:=jA
  omega
 |cons a r ih =>
  have h1:=ih (fun y hy=>h y (List.mem_cons_of_mem _ hy))
  have h2:=h a (List.mem_cons_self ..)
  have h3:=fw (evalL r x) x
  have h4:=mT (evalL r x*x) a
  show ht (evalL r x*x+a)≤_
  rw[List.length_cons,Nat.add_mul]
  omega
def gz:Nat→List Rat→List Rat
 |_,[]=>[]
 |i,a::r=>((i:Int):Rat)*a::gz (i+1) r
def ak(q:List Rat):List Rat:=aL (gz 1 (q.drop 1))
theorem nH:∀(q:List Rat) (i:Nat),(gz i q).length=q.length
 |[],_=>rfl
 |a::r,i=>by rw[gz,List.length_cons,List.length_cons,nH r]
theorem DB:∀(q:List Rat) (i:Nat) (a:Rat),gz i (q++[a])=gz i q++[(((i+q.length:Nat):Int):Rat)*a]
 |[],i,a=>rfl
 |b::r,i,a=>by
  rw[List.cons_append,gz,gz,DB r (i+1) a,List.length_cons,List.cons_append,show i+1+r.length=i+(r.length+1) from by omega]
theorem DC{p:List af}{i:Nat}{v:af}(hv:p[i]? = some v)(h:1≤i):gz 1 (((bI p).take (i+1)).drop 1)=gz 1 (((bI p).take i).drop 1)++[((i:Int):Rat)*v.val]:=by
 have h1:=(List.getElem?_eq_some_iff.1 hv).1
 have hm:(bI p)[i]? = some v.val:=by unfold bI;rw[List.getElem?_map,hv];rfl
 have hl:((bI p).take i).length=i:=by unfold bI;simp;omega
 rw[List.take_add_one,hm,List.drop_append_of_le_length (by omega)]
 show gz 1 (((bI p).take i).drop 1++[v.val])=_
 rw[DB,List.length_drop,hl,show 1+(i-1)=i from by omega]
theorem EP{k:Nat}(hk:k+2≤274877906944):∀(q:List Rat) (i:Nat),i+q.length≤18446744073709551615→Fl k q→Fl 274877906944 (gz i q)
 |[],_,_,_=>fun x hx=>by cases hx
 |a::r,i,hi,h=>by
  intro x hx
  rw[List.length_cons] at hi
  rcases List.mem_cons.1 hx with e|hx
  ·rw[e]
   have h1:=fw ((i:Int):Rat) a
   have h2:=h a (List.mem_cons_self ..)
   have h3:ht ((i:Int):Rat)≤2:=by
    rw[tF]
    have:wl (i:Int)≤2:=mC (by omega)
    omega
   omega
  ·exact EP hk r (i+1) (by omega) (fun y hy=>h y (List.mem_cons_of_mem _ hy)) x hx
namespace Hs
theorem uM(a:af)(h:kD a):Cp 91 [a.pv,(⟨false,[],[]⟩:af).pv] (aJ a.val).pv:=by
 have hf:=um.Add a ⟨false,[],[]⟩ h ⟨by simp,by simp⟩
 rwa[si (a:=⟨false,[],[]⟩) rfl,Rat.add_zero] at hf
theorem MZ:∀(n:Nat) (q:List Rat),q.length=n→n<4611686018427387904→Fl 274877906944 q→j0.bK (q.map aJ) (ae ((aL q).map aJ)):=by
 intro n
 induction n with
 |zero =>
  intro q hq _ _
  have:q=[]:=List.eq_nil_of_length_eq_zero hq
  subst this
  exact j0.Mt [] (by simp)
 |succ n ih =>
  intro q hq hb hf
  obtain⟨v,hv⟩:∃v,q[n]? = some v:=⟨_,List.getElem?_eq_getElem (by omega)⟩
  have hs:=EO hv hq
  have hm:(q.map aJ)[n]? = some (aJ v):=by rw[List.getElem?_map,hv];rfl
  have BM:=hf v (List.mem_of_getElem? hv)
  have sg:=um.Sign (aJ v) (iS BM)
  rw[bl] at sg
  have hl:(q.map aJ).length=n+1:=by rw[List.length_map];exact hq
  by_cases h0:v=0
  ·refine j0.Ac (q.map aJ) n (aJ v) _ n (by omega) (by unfold ax;omega) (by omega) (by omega) hm sg (ew.2 h0) (by omega) (by omega) ?_
   have:=ih (q.take n) (by rw[List.length_take];omega) (by omega) (fun x hx=>hf x (List.mem_of_mem_take hx))
   rw[List.map_take] at this
   rw[hs,h0,sk]
   rw[←hs.symm,←h0,←hs] at *
   exact this
  ·rw[hs,w7 h0,←hs]
   exact j0.CN (q.map aJ) n (aJ v) _ (by omega) (by unfold ax;omega) (by omega) (by omega) hm sg (fun e=>h0 (ew.1 e))
theorem Trim(l:List af)(hl:l.length≤1099511627776)(hf:lh 274877906944 l):Cp 182 [ae l] (ae ((aL (bI l)).map aJ)):=by
 have loop:∀(j t:Nat) (site:List af),l.length-t=j→t≤l.length→site=(l.take t).map (fun a=>aJ a.val)→j0.ah site l t (ae ((aL (bI l)).map aJ)):=by
  intro j
  induction j with
  |zero =>
   intro t site hj ht hs
   have wH:t=l.length:=by omega
   subst wH
   refine j0.cR site l _ (Nat.le_refl _) ?_
   rw[List.take_of_length_le (Nat.le_refl _)] at hs
   have:=MZ (bI l).length (bI l) rfl (by unfold bI;rw[List.length_map];omega) (sl hf (by omega))
   have e:site=(bI l).map aJ:=by rw[hs];unfold bI;rw[List.map_map];rfl
   rw[e];exact this
  |succ j ih =>
   intro t site hj ht hs
   obtain⟨v,hv⟩:∃v,l[t]? = some v:=⟨_,List.getElem?_eq_getElem (by omega)⟩
   have ha:=uM v (hf v (List.mem_of_getElem? hv))
   have SS:site.length=t:=by rw[hs,List.length_map,List.length_take];omega
   refine j0.l10 site l t v _ (by omega) hv ha (by simp;omega) (by omega) (ih (t+1) _ (by omega) (by omega) ?_)
   rw[hs,List.take_add_one,hv];simp
 exact j0.e0 l (loop _ 0 [] rfl (by omega) rfl)
theorem Iu:∀(j:Nat) (p:List af) (t:Nat),p.length-t=j→t≤p.length→p.length≤65→lh 274877906944 p→(p.take t).all af.valid=true →
  (p.all af.valid=false→ef.ah p t (.iface 67 (vI 2)))∧(p.all af.valid=true→aK (bI p)=true→ef.ah p t (.iface 67 (vI 8)))∧(p.all af.valid=true→aK (bI p)=false→ef.ah p t .az):=by
 intro j
 induction j with
 |zero =>
  intro p t hj ht hl hf hv
  have wH:t=p.length:=by omega
  subst wH
  rw[List.take_of_length_le (Nat.le_refl _)] at hv
  refine⟨fun h => ?_,fun _ hz => ?_,fun _ hz => ?_⟩
  ·rw[hv] at h;cases h
  ·obtain⟨v,h0,h1,h2⟩:=BS hz
   have sg:=um.Sign v (hf v (List.mem_of_getElem? h1))
   exact ef.kM p _ (p.length-1) v _ (Nat.le_refl _) h0 (by unfold ax;omega) (by omega) h1 sg (ew.2 h2)
  ·by_cases h0:p.length=0
   ·exact ef.Ew p _ (Nat.le_refl _) (by omega)
   ·obtain⟨v,h1,h2⟩:=zl hz h0
    have sg:=um.Sign v (hf v (List.mem_of_getElem? h1))
    exact ef.tq p _ (p.length-1) v _ (Nat.le_refl _) (by omega) (by unfold ax;omega) (by omega) h1 sg (fun e=>h2 (ew.1 e))
 |succ j ih =>
  intro p t hj ht hl hf hv
  obtain⟨v,h1⟩:∃v,p[t]? = some v:=⟨_,List.getElem?_eq_getElem (by omega)⟩
  have Pd:=um.Valid v (hf v (List.mem_of_getElem? h1))
  cases hc:v.valid with
  |false =>
   have AF:p.all af.valid=false:=by
    rw[List.all_eq_false]
    exact⟨v,List.mem_of_getElem? h1,by rw[hc];simp⟩
   refine⟨fun _=>ef.l10 p t v _ (by omega) h1 Pd hc,fun h => ?_,fun h => ?_⟩
   ·rw[AF] at h;cases h
   ·rw[AF] at h;cases h
  |true =>
   obtain⟨g1,g2,g3⟩:=ih p (t+1) (by omega) (by omega) hl hf (by rw[List.take_add_one,h1];simp[hv,hc])
   exact⟨fun h=>ef.cR p t v _ (by omega) h1 Pd hc (by omega) (g1 h),fun h h'=>ef.cR p t v _ (by omega) h1 Pd hc (by omega) (g2 h h'),fun h h'=>ef.cR p t v _ (by omega) h1 Pd hc (by omega) (g3 h h')⟩
theorem Check(p:List af)(hf:lh 274877906944 p):Cp 79 [ae p] (bw (pc (py p))):=by
 unfold py
 by_cases hl:p.length≤65
 ·rw[if_neg (by omega)]
  obtain⟨g1,g2,g3⟩:=Iu _ p 0 rfl (by omega) hl hf (by simp)
  cases hv:p.all af.valid with
  |false=>exact ef.e1 p hl (g1 hv)
  |true =>
   cases hz:aK (bI p) with
   |true=>exact ef.e1 p hl (g2 hv hz)
   |false=>exact ef.e1 p hl (g3 hv hz)
 ·rw[if_pos (by omega)]
  exact ef.e0 p (by omega)
theorem M0(p:List af)(x:af)(hl:p.length≤65)(hp:lh 1073741824 p)(hx:x.num.length≤1073741824∧x.den.length≤1073741824):∀(n:Nat) (q:Rat),n≤p.length→q=evalL ((bI p).drop n) x.val →
  q9.ah p ((n:Int)-1) x (aJ q) (.aB [(aJ (evalL (bI p) x.val)).pv,.az]):=by
 intro n
 induction n with
 |zero =>
  intro q _ hq
  rw[List.drop_zero] at hq
  rw[←hq]
  exact q9.cR p _ x _ (by omega)
 |succ n ih =>
  intro q hn hq
  obtain⟨v,hv⟩:∃v,p[n]? = some v:=⟨_,List.getElem?_eq_getElem (by omega)⟩
  have N5:=hp v (List.mem_of_getElem? hv)
  have b1:=dU N5.1 N5.2 (by omega)
  have b2:=dU hx.1 hx.2 (by omega)
  have b3:ht q≤65*2147483649+1:=by
   rw[hq]
   refine Nat.le_trans (nh _ x.val 1073741824 (fun y hy=>sl hp (by omega) y (List.mem_of_mem_drop hy)) b2) ?_
   have:((bI p).drop (n+1)).length≤65:=by unfold bI;simp;omega
   omega
  have m:=um.Mul (aJ q) x (iS (by omega)) ⟨by omega,by omega⟩
  rw[bl] at m
  have b4:=fw q x.val
  have s:=um.Add (aJ (q*x.val)) v (iS (by omega)) ⟨by omega,by omega⟩
  rw[bl] at s
  have:=ih (q*x.val+v.val) (by omega) (by rw[hq,Dz hv];rfl)
  rw[show ((n+1:Nat):Int)-1=(n:Int) from by omega]
  exact q9.l10 p (n:Int) x _ _ n v _ (by omega) m rfl hv s (by unfold ax;omega) this
theorem Eval(p:List af)(x:af)(hc:py p=0)(hp:lh 1073741824 p)(hx:x.num.length≤1073741824∧x.den.length≤1073741824):Cp 133 [ae p,x.pv] (.aB [(aJ (evalL (bI p) x.val)).pv,.az]):=by
 have hk:=Check p (fun a ha=>⟨by have:=(hp a ha).1;omega,by have:=(hp a ha).2;omega⟩)
 rw[hc] at hk
 have hl:=Aq hc
 exact q9.e0 p x hk (by unfold ax;omega) (M0 p x hl hp hx p.length 0 (Nat.le_refl _) (by rw[List.drop_of_length_le (by unfold bI;simp)];rfl))
theorem derive(p:List af)(hl:p.length≤65)(hp:lh 137438953472 p):Cp 155 [ae p] (ae ((ak (bI p)).map aJ)):=by
 have loop:∀(j i:Nat) (site:List af),p.length-i=j→1≤i→site=(gz 1 (((bI p).take i).drop 1)).map aJ→ny.ah p site i (ae ((ak (bI p)).map aJ)):=by
  intro j
  induction j with
  |zero =>
   intro i site hj h1 hs
   rw[List.take_of_length_le (by unfold bI;rw[List.length_map];omega)] at hs
   have rE:Fl 274877906944 (gz 1 ((bI p).drop 1)):=EP (k:=137438953472) (by omega) _ 1 (by unfold bI;simp;omega) (fun y hy=>sl hp (by omega) y (List.mem_of_mem_drop hy))
   have ht:=Trim site (by rw[hs,List.length_map,nH];unfold bI;simp;omega) (by rw[hs];exact Ap rE)
   rw[hs,eS] at ht
   rw[hs]
   exact ny.cR p _ i _ (by omega) ht
  |succ j ih =>
   intro i site hj h1 hs
   obtain⟨v,hv⟩:∃v,p[i]? = some v:=⟨_,List.getElem?_eq_getElem (by omega)⟩
   have N5:=hp v (List.mem_of_getElem? hv)
   have ho:=um.Of (i:Int) (by unfold ax;omega)
   have b1:ht ((i:Int):Rat)≤2:=by
    rw[tF]
    have:wl (i:Int)≤2:=mC (by omega)
    omega
   have m:=um.Mul (aJ ((i:Int):Rat)) v (iS (by omega)) ⟨by omega,by omega⟩
   rw[bl] at m
   have SS:site.length=i-1:=by rw[hs,List.length_map,nH];unfold bI;simp;omega
   refine ny.l10 p site i _ v _ (by omega) ho hv m (by simp;omega) (by omega) (ih (i+1) _ (by omega) (by omega) ?_)
   rw[hs,DC hv h1]
   simp
 exact ny.e0 p (loop _ 1 [] rfl (by omega) (by rw[show (((bI p).take 1).drop 1)=[] from by simp];rfl))
theorem so(p:List af)(hc:py p=0)(hp:lh 137438953472 p):Cp 80 [ae p] (.aB [ae ((ak (bI p)).map aJ),.az]):=by
 have hk:=Check p (fun a ha=>⟨by have:=(hp a ha).1;omega,by have:=(hp a ha).2;omega⟩)
 rw[hc] at hk
 exact y0.e0 p _ hk (derive p (Aq hc) hp)
end Hs
namespace Iv
theorem uM(a:af)(h:kD a):Cp 70 [a.pv,(⟨false,[],[]⟩:af).pv] (aJ a.val).pv:=by
 have hf:=uo.Add a ⟨false,[],[]⟩ h ⟨by simp,by simp⟩
 rwa[si (a:=⟨false,[],[]⟩) rfl,Rat.add_zero] at hf
theorem MZ:∀(n:Nat) (q:List Rat),q.length=n→n<4611686018427387904→Fl 274877906944 q→cV.bK (q.map aJ) (ae ((aL q).map aJ)):=by
 intro n
 induction n with
 |zero =>
  intro q hq _ _
  have:q=[]:=List.eq_nil_of_length_eq_zero hq
  subst this
  exact cV.Mt [] (by simp)
 |succ n ih =>
  intro q hq hb hf
  obtain⟨v,hv⟩:∃v,q[n]? = some v:=⟨_,List.getElem?_eq_getElem (by omega)⟩
  have hs:=EO hv hq
  have hm:(q.map aJ)[n]? = some (aJ v):=by rw[List.getElem?_map,hv];rfl
  have BM:=hf v (List.mem_of_getElem? hv)
  have sg:=uo.Sign (aJ v) (iS BM)
  rw[bl] at sg
  have hl:(q.map aJ).length=n+1:=by rw[List.length_map];exact hq
  by_cases h0:v=0
  ·refine cV.Ac (q.map aJ) n (aJ v) _ n (by omega) (by unfold ax;omega) (by omega) (by omega) hm sg (ew.2 h0) (by omega) (by omega) ?_
   have:=ih (q.take n) (by rw[List.length_take];omega) (by omega) (fun x hx=>hf x (List.mem_of_mem_take hx))
   rw[List.map_take] at this
   rw[hs,h0,sk]
   rw[←hs.symm,←h0,←hs] at *
   exact this
  ·rw[hs,w7 h0,←hs]
   exact cV.CN (q.map aJ) n (aJ v) _ (by omega) (by unfold ax;omega) (by omega) (by omega) hm sg (fun e=>h0 (ew.1 e))
theorem Trim(l:List af)(hl:l.length≤1099511627776)(hf:lh 274877906944 l):Cp 106 [ae l] (ae ((aL (bI l)).map aJ)):=by
 have loop:∀(j t:Nat) (site:List af),l.length-t=j→t≤l.length→site=(l.take t).map (fun a=>aJ a.val)→cV.ah site l t (ae ((aL (bI l)).map aJ)):=by
  intro j
  induction j with
  |zero =>
   intro t site hj ht hs
   have wH:t=l.length:=by omega
   subst wH
   refine cV.cR site l _ (Nat.le_refl _) ?_
   rw[List.take_of_length_le (Nat.le_refl _)] at hs
   have:=MZ (bI l).length (bI l) rfl (by unfold bI;rw[List.length_map];omega) (sl hf (by omega))
   have e:site=(bI l).map aJ:=by rw[hs];unfold bI;rw[List.map_map];rfl
   rw[e];exact this
  |succ j ih =>
   intro t site hj ht hs
   obtain⟨v,hv⟩:∃v,l[t]? = some v:=⟨_,List.getElem?_eq_getElem (by omega)⟩
   have ha:=uM v (hf v (List.mem_of_getElem? hv))
   have SS:site.length=t:=by rw[hs,List.length_map,List.length_take];omega
   refine cV.l10 site l t v _ (by omega) hv ha (by simp;omega) (by omega) (ih (t+1) _ (by omega) (by omega) ?_)
   rw[hs,List.take_add_one,hv];simp
 exact cV.e0 l (loop _ 0 [] rfl (by omega) rfl)
theorem Iu:∀(j:Nat) (p:List af) (t:Nat),p.length-t=j→t≤p.length→p.length≤65→lh 274877906944 p→(p.take t).all af.valid=true →
  (p.all af.valid=false→bq.ah p t (vI 2))∧(p.all af.valid=true→aK (bI p)=true→bq.ah p t (vI 8))∧(p.all af.valid=true→aK (bI p)=false→bq.ah p t (vI 0)):=by
 intro j
 induction j with
 |zero =>
  intro p t hj ht hl hf hv
  have wH:t=p.length:=by omega
  subst wH
  rw[List.take_of_length_le (Nat.le_refl _)] at hv
  refine⟨fun h => ?_,fun _ hz => ?_,fun _ hz => ?_⟩
  ·rw[hv] at h;cases h
  ·obtain⟨v,h0,h1,h2⟩:=BS hz
   have sg:=uo.Sign v (hf v (List.mem_of_getElem? h1))
   exact bq.kM p _ (p.length-1) v _ (Nat.le_refl _) h0 (by unfold ax;omega) (by omega) h1 sg (ew.2 h2)
  ·by_cases h0:p.length=0
   ·exact bq.Ew p _ (Nat.le_refl _) (by omega)
   ·obtain⟨v,h1,h2⟩:=zl hz h0
    have sg:=uo.Sign v (hf v (List.mem_of_getElem? h1))
    exact bq.tq p _ (p.length-1) v _ (Nat.le_refl _) (by omega) (by unfold ax;omega) (by omega) h1 sg (fun e=>h2 (ew.1 e))
 |succ j ih =>
  intro p t hj ht hl hf hv
  obtain⟨v,h1⟩:∃v,p[t]? = some v:=⟨_,List.getElem?_eq_getElem (by omega)⟩
  have Pd:=uo.Valid v (hf v (List.mem_of_getElem? h1))
  cases hc:v.valid with
  |false =>
   have AF:p.all af.valid=false:=by
    rw[List.all_eq_false]
    exact⟨v,List.mem_of_getElem? h1,by rw[hc];simp⟩
   refine⟨fun _=>bq.l10 p t v _ (by omega) h1 Pd hc,fun h => ?_,fun h => ?_⟩
   ·rw[AF] at h;cases h
   ·rw[AF] at h;cases h
  |true =>
   obtain⟨g1,g2,g3⟩:=ih p (t+1) (by omega) (by omega) hl hf (by rw[List.take_add_one,h1];simp[hv,hc])
   exact⟨fun h=>bq.cR p t v _ (by omega) h1 Pd hc (by omega) (g1 h),fun h h'=>bq.cR p t v _ (by omega) h1 Pd hc (by omega) (g2 h h'),fun h h'=>bq.cR p t v _ (by omega) h1 Pd hc (by omega) (g3 h h')⟩
theorem Check(p:List af)(hf:lh 274877906944 p):Cp 56 [ae p] (vI (py p)):=by
 unfold py
 by_cases hl:p.length≤65
 ·rw[if_neg (by omega)]
  obtain⟨g1,g2,g3⟩:=Iu _ p 0 rfl (by omega) hl hf (by simp)
  cases hv:p.all af.valid with
  |false=>exact bq.e1 p hl (g1 hv)
  |true =>
   cases hz:aK (bI p) with
   |true=>exact bq.e1 p hl (g2 hv hz)
   |false=>exact bq.e1 p hl (g3 hv hz)
 ·rw[if_pos (by omega)]
  exact bq.e0 p (by omega)
theorem M0(p:List af)(x:af)(hl:p.length≤65)(hp:lh 1073741824 p)(hx:x.num.length≤1073741824∧x.den.length≤1073741824):∀(n:Nat) (q:Rat),n≤p.length→q=evalL ((bI p).drop n) x.val →
  iq.ah p ((n:Int)-1) x (aJ q) (aJ (evalL (bI p) x.val)).pv:=by
 intro n
 induction n with
 |zero =>
  intro q _ hq
  rw[List.drop_zero] at hq
  rw[←hq]
  exact iq.cR p _ x _ (by omega)
 |succ n ih =>
  intro q hn hq
  obtain⟨v,hv⟩:∃v,p[n]? = some v:=⟨_,List.getElem?_eq_getElem (by omega)⟩
  have N5:=hp v (List.mem_of_getElem? hv)
  have b1:=dU N5.1 N5.2 (by omega)
  have b2:=dU hx.1 hx.2 (by omega)
  have b3:ht q≤65*2147483649+1:=by
   rw[hq]
   refine Nat.le_trans (nh _ x.val 1073741824 (fun y hy=>sl hp (by omega) y (List.mem_of_mem_drop hy)) b2) ?_
   have:((bI p).drop (n+1)).length≤65:=by unfold bI;simp;omega
   omega
  have m:=uo.Mul (aJ q) x (iS (by omega)) ⟨by omega,by omega⟩
  rw[bl] at m
  have b4:=fw q x.val
  have s:=uo.Add (aJ (q*x.val)) v (iS (by omega)) ⟨by omega,by omega⟩
  rw[bl] at s
  have:=ih (q*x.val+v.val) (by omega) (by rw[hq,Dz hv];rfl)
  rw[show ((n+1:Nat):Int)-1=(n:Int) from by omega]
  exact iq.l10 p (n:Int) x _ _ n v _ (by omega) m rfl hv s (by unfold ax;omega) this
theorem At(p:List af)(x:af)(hl:p.length≤65)(hp:lh 1073741824 p)(hx:x.num.length≤1073741824∧x.den.length≤1073741824):Cp 208 [ae p,x.pv] (aJ (evalL (bI p) x.val)).pv:=by
 exact iq.e0 p x (by unfold ax;omega) (M0 p x hl hp hx p.length 0 (Nat.le_refl _) (by rw[List.drop_of_length_le (by unfold bI;simp)];rfl))
theorem derive(p:List af)(hl:p.length≤65)(hp:lh 137438953472 p):Cp 162 [ae p] (ae ((ak (bI p)).map aJ)):=by
 have loop:∀(j i:Nat) (site:List af),p.length-i=j→i≤p.length→site=(gz 1 (((bI p).take i).drop 1)).map aJ→ei.ah site p i (ae ((ak (bI p)).map aJ)):=by
  intro j
  induction j with
  |zero =>
   intro i site hj h1 hs
   rw[List.take_of_length_le (by unfold bI;rw[List.length_map];omega)] at hs
   have rE:Fl 274877906944 (gz 1 ((bI p).drop 1)):=EP (k:=137438953472) (by omega) _ 1 (by unfold bI;simp;omega) (fun y hy=>sl hp (by omega) y (List.mem_of_mem_drop hy))
   have ht:=Trim site (by rw[hs,List.length_map,nH];unfold bI;simp;omega) (by rw[hs];exact Ap rE)
   rw[hs,eS] at ht
   rw[hs]
   exact ei.kM _ p i _ (by omega) ht
  |succ j ih =>
   intro i site hj h1 hs
   obtain⟨v,hv⟩:∃v,p[i]? = some v:=⟨_,List.getElem?_eq_getElem (by omega)⟩
   by_cases hi:i=0
   ·subst hi
    refine ei.cR site p 0 v (by omega) hv (by omega) (by omega) (ih 1 site (by omega) (by omega) ?_)
    rw[hs];simp
   ·have N5:=hp v (List.mem_of_getElem? hv)
    have ho:=uo.Of (i:Int) (by unfold ax;omega)
    have b1:ht ((i:Int):Rat)≤2:=by
     rw[tF]
     have:wl (i:Int)≤2:=mC (by omega)
     omega
    have m:=uo.Mul (aJ ((i:Int):Rat)) v (iS (by omega)) ⟨by omega,by omega⟩
    rw[bl] at m
    have SS:site.length=i-1:=by rw[hs,List.length_map,nH];unfold bI;simp;omega
    refine ei.l10 site p i v _ _ (by omega) hv (by omega) ho m (by simp;omega) (by omega) (ih (i+1) _ (by omega) (by omega) ?_)
    rw[hs,DC hv (by omega)]
    simp
 exact ei.e0 p (loop _ 0 [] rfl (by omega) (by rw[show (((bI p).take 0).drop 1)=[] from by simp];rfl))
theorem so(p:List af)(hc:py p=0)(hp:lh 137438953472 p):Cp 84 [ae p] (.aB [ae ((ak (bI p)).map aJ),vI 0]):=by
 have hk:=Check p (fun a ha=>⟨by have:=(hp a ha).1;omega,by have:=(hp a ha).2;omega⟩)
 exact nA.e1 p _ _ hk hc (derive p (Aq hc) hp)
end Iv
theorem qp{p q:Rat} : 0≤eh p q↔q≤p:=by
 constructor
 ·intro h
  have:¬p<q:=fun e=>by have:=EM.2 e;omega
  grind
 ·intro h
  refine Int.not_lt.1 fun e => ?_
  have:=EM.1 e
  grind
theorem qq{p q:Rat} : eh p q≤0↔p≤q:=by
 constructor
 ·intro h
  have:¬q<p:=fun e=>by have:=JD.2 e;omega
  grind
 ·intro h
  refine Int.not_lt.1 fun e => ?_
  have:=JD.1 e
  grind
theorem drop_cons{α:Type}{l:List α}{t:Nat}{v:α}(h:l[t]? = some v):l.drop t=v::l.drop (t+1):=by
 obtain⟨h1,h2⟩:=List.getElem?_eq_some_iff.1 h
 rw[List.drop_eq_getElem_cons h1,h2]
theorem zS{q:Rat}(h:ht q≤68719476736):kD (aJ q):=iS (by omega)
theorem BT(p q:Rat){k:Nat}(hp:ht p≤k)(hq:ht q≤k):ht (fa p q)≤k:=by unfold fa;split<;>assumption
theorem BU(p q:Rat){k:Nat}(hp:ht p≤k)(hq:ht q≤k):ht (fR p q)≤k:=by unfold fR;split<;>assumption
theorem yf(p:Rat):fa p p=p:=by unfold fa;split<;>rfl
theorem yg(p:Rat):fR p p=p:=by unfold fR;split<;>rfl
theorem jo(p q:Rat):fa p q≤p:=by
 unfold fa;split
 ·exact Rat.le_refl
 ·rename_i h;have:=mt qq.2 h;grind
theorem jq(p q:Rat):fa p q≤q:=by
 unfold fa;split
 ·rename_i h;exact qq.1 h
 ·exact Rat.le_refl
theorem iA(p q:Rat):p≤fR p q:=by
 unfold fR;split
 ·exact Rat.le_refl
 ·rename_i h;have:=mt qp.2 h;grind
theorem ka(p q:Rat):q≤fR p q:=by
 unfold fR;split
 ·rename_i h;exact qp.1 h
 ·exact Rat.le_refl
theorem pd{p q:Rat}(h:p≤q):fa p q=p:=by unfold fa;rw[if_pos (qq.2 h)]
theorem vP{p q:Rat}(h:p≤q):fR p q=q:=by
 unfold fR;split
 ·rename_i h2;have:=qp.1 h2;exact Rat.le_antisymm h this
 ·rfl
theorem JH{a p q:Rat}(h:a≤p)(h2:a≤q):a≤fa p q:=by unfold fa;split<;>assumption
theorem w8{a p q:Rat}(h:p≤a)(h2:q≤a):fR p q≤a:=by unfold fR;split<;>assumption
namespace QF
theorem Add(p q:Rat)(hp:ht p≤68719476736)(hq:ht q≤68719476736):Cp 91 [(aJ p).pv,(aJ q).pv] (aJ (p+q)).pv:=by
 have h:=um.Add (aJ p) (aJ q) ⟨by have:=(aZ hp).1;omega,by have:=(aZ hp).2;omega⟩ ⟨by have:=(aZ hq).1;omega,by have:=(aZ hq).2;omega⟩
 rwa[bl,bl] at h
theorem Sub(p q:Rat)(hp:ht p≤68719476736)(hq:ht q≤68719476736):Cp 32 [(aJ p).pv,(aJ q).pv] (aJ (p-q)).pv:=by
 have h:=um.Sub (aJ p) (aJ q) ⟨by have:=(aZ hp).1;omega,by have:=(aZ hp).2;omega⟩ ⟨by have:=(aZ hq).1;omega,by have:=(aZ hq).2;omega⟩
 rwa[bl,bl] at h
theorem Mul(p q:Rat)(hp:ht p≤68719476736)(hq:ht q≤68719476736):Cp 198 [(aJ p).pv,(aJ q).pv] (aJ (p*q)).pv:=by
 have h:=um.Mul (aJ p) (aJ q) ⟨by have:=(aZ hp).1;omega,by have:=(aZ hp).2;omega⟩ ⟨by have:=(aZ hq).1;omega,by have:=(aZ hq).2;omega⟩
 rwa[bl,bl] at h
theorem o9(p q:Rat)(hp:ht p≤68719476736)(hq:ht q≤68719476736):Cp 34 [(aJ p).pv,(aJ q).pv] (vI (eh p q)):=by
 have h:=um.o9 (aJ p) (aJ q) ⟨by have:=(aZ hp).1;omega,by have:=(aZ hp).2;omega⟩ ⟨by have:=(aZ hq).1;omega,by have:=(aZ hq).2;omega⟩
 rwa[bl,bl] at h
theorem Div(p q:Rat)(hp:ht p≤68719476736)(hq:ht q≤68719476736)(h0:q≠0):Cp 234 [(aJ p).pv,(aJ q).pv] (.aB [(aJ (p/q)).pv,.az]):=by
 have h:=um.Div (aJ p) (aJ q) (zS hp) (zS hq) (by rw[bl];exact h0)
 rwa[bl,bl] at h
theorem Sign(p:Rat)(hp:ht p≤68719476736):Cp 33 [(aJ p).pv] (vI (eh p 0)):=by
 have h:=um.Sign (aJ p) (zS hp)
 rwa[bl] at h
theorem Neg(p:Rat)(hp:ht p≤68719476736):Cp 87 [(aJ p).pv] (aJ (-p)).pv:=by
 have h:=um.Neg (aJ p) (zS hp)
 rwa[bl] at h
theorem Valid(p:Rat)(hp:ht p≤68719476736):Cp 164 [(aJ p).pv] (vB true):=by
 have h:=um.Valid (aJ p) (zS hp)
 rwa[ri] at h
theorem uM(p:Rat)(hp:ht p≤68719476736):Cp 91 [(aJ p).pv,(⟨false,[],[]⟩:af).pv] (aJ p).pv:=by
 have h:=Add p 0 hp (by decide)
 rwa[Rat.add_zero] at h
end QF
namespace QR
theorem Add(p q:Rat)(hp:ht p≤68719476736)(hq:ht q≤68719476736):Cp 70 [(aJ p).pv,(aJ q).pv] (aJ (p+q)).pv:=by
 have h:=uo.Add (aJ p) (aJ q) ⟨by have:=(aZ hp).1;omega,by have:=(aZ hp).2;omega⟩ ⟨by have:=(aZ hq).1;omega,by have:=(aZ hq).2;omega⟩
 rwa[bl,bl] at h
theorem Sub(p q:Rat)(hp:ht p≤68719476736)(hq:ht q≤68719476736):Cp 143 [(aJ p).pv,(aJ q).pv] (aJ (p-q)).pv:=by
 have h:=uo.Sub (aJ p) (aJ q) ⟨by have:=(aZ hp).1;omega,by have:=(aZ hp).2;omega⟩ ⟨by have:=(aZ hq).1;omega,by have:=(aZ hq).2;omega⟩
 rwa[bl,bl] at h
theorem Mul(p q:Rat)(hp:ht p≤68719476736)(hq:ht q≤68719476736):Cp 245 [(aJ p).pv,(aJ q).pv] (aJ (p*q)).pv:=by
 have h:=uo.Mul (aJ p) (aJ q) ⟨by have:=(aZ hp).1;omega,by have:=(aZ hp).2;omega⟩ ⟨by have:=(aZ hq).1;omega,by have:=(aZ hq).2;omega⟩
 rwa[bl,bl] at h
theorem o9(p q:Rat)(hp:ht p≤68719476736)(hq:ht q≤68719476736):Cp 69 [(aJ p).pv,(aJ q).pv] (vI (eh p q)):=by
 have h:=uo.o9 (aJ p) (aJ q) ⟨by have:=(aZ hp).1;omega,by have:=(aZ hp).2;omega⟩ ⟨by have:=(aZ hq).1;omega,by have:=(aZ hq).2;omega⟩
 rwa[bl,bl] at h
theorem Min(p q:Rat)(hp:ht p≤68719476736)(hq:ht q≤68719476736):Cp 284 [(aJ p).pv,(aJ q).pv] (aJ (fa p q)).pv:=by
 have h:=uo.Min (aJ p) (aJ q) ⟨by have:=(aZ hp).1;omega,by have:=(aZ hp).2;omega⟩ ⟨by have:=(aZ hq).1;omega,by have:=(aZ hq).2;omega⟩
 rwa[bl,bl] at h
theorem Max(p q:Rat)(hp:ht p≤68719476736)(hq:ht q≤68719476736):Cp 285 [(aJ p).pv,(aJ q).pv] (aJ (fR p q)).pv:=by
 have h:=uo.Max (aJ p) (aJ q) ⟨by have:=(aZ hp).1;omega,by have:=(aZ hp).2;omega⟩ ⟨by have:=(aZ hq).1;omega,by have:=(aZ hq).2;omega⟩
 rwa[bl,bl] at h
theorem Div(p q:Rat)(hp:ht p≤68719476736)(hq:ht q≤68719476736)(h0:q≠0):Cp 148 [(aJ p).pv,(aJ q).pv] (.aB [(aJ (p/q)).pv,vI 0]):=by
 have h:=uo.Div (aJ p) (aJ q) (zS hp) (zS hq) (by rw[bl];exact h0)
 rwa[bl,bl] at h
theorem Sign(p:Rat)(hp:ht p≤68719476736):Cp 124 [(aJ p).pv] (vI (eh p 0)):=by
 have h:=uo.Sign (aJ p) (zS hp)
 rwa[bl] at h
theorem Neg(p:Rat)(hp:ht p≤68719476736):Cp 88 [(aJ p).pv] (aJ (-p)).pv:=by
 have h:=uo.Neg (aJ p) (zS hp)
 rwa[bl] at h
theorem Valid(p:Rat)(hp:ht p≤68719476736):Cp 111 [(aJ p).pv] (vB true):=by
 have h:=uo.Valid (aJ p) (zS hp)
 rwa[ri] at h
theorem uM(p:Rat)(hp:ht p≤68719476736):Cp 70 [(aJ p).pv,(⟨false,[],[]⟩:af).pv] (aJ p).pv:=by
 have h:=Add p 0 hp (by decide)
 rwa[Rat.add_zero] at h
end QR
theorem QF.Make(n d:Int)(hn:ax n)(hd:ax d)(h0:d≠0):Cp 31 [vI n,vI d] (.aB [(aJ (Rat.divInt n d)).pv,.az]):=by
 have hw:wl n≤2:=mC (by unfold ax at hn;omega)
 have z8:wl d≤2:=mC (by unfold ax at hd;omega)
 have hf:=um.It (Sym.whole n) (Sym.whole d) (show wl _≤_ by omega) (show wl _≤_ by omega) (by rw[aw];exact h0)
 rw[aw,aw] at hf
 exact uZ.e0 n d _ _ _ none (cP.Of n hn) (cP.Of d hd) hf
theorem QF.Abs(p:Rat)(hp:ht p≤68719476736):Cp 235 [(aJ p).pv] (aJ (if p<0 then -p else p)).pv:=by
 have hs:=QF.Sign p hp
 by_cases h:p<0
 ·rw[if_pos h];exact r6.e0 _ _ _ hs (EM.2 h) (QF.Neg p hp)
 ·rw[if_neg h]
  have YQ:=um.jN (aJ p) (zS hp)
  rw[bl] at YQ
  have hf:=um.va p.num (p.den:Int) (by have:=eF p;omega) (by have:=eP p;omega) (by have:=p.den_nz;omega)
  rw[Rat.num_divInt_den] at hf
  exact r6.e1 _ _ _ _ _ hs (qp.2 (by grind)) YQ hf
theorem QR.Make(n d:Int)(hn:ax n)(hd:ax d)(h0:d≠0):Cp 275 [vI n,vI d] (.aB [(aJ (Rat.divInt n d)).pv,vI 0]):=by
 have hw:wl n≤2:=mC (by unfold ax at hn;omega)
 have z8:wl d≤2:=mC (by unfold ax at hd;omega)
 have hf:=uo.It (Sym.whole n) (Sym.whole d) (show wl _≤_ by omega) (show wl _≤_ by omega) (by rw[aw];exact h0)
 rw[aw,aw] at hf
 exact oY.e0 n d _ _ _ _ (tE.Of n hn) (tE.Of d hd) hf
def Qf(a b:af):Bool:=decide (a.neg=b.neg)&&(decide (a.num=b.num)&&decide (a.den=b.den))
theorem ER{a b:af} : Qf a b=true↔a=b:=by
 obtain⟨n,m,d⟩:=a
 obtain⟨n',m',d'⟩:=b
 unfold Qf
 simp only[Bool.and_eq_true,decide_eq_true_eq,af.mk.injEq]
theorem Gw(a:af):Qf a a=true:=ER.2 rfl
def BV:List af→List af→Bool
 |[],[]=>true
 |a::r,b::s=>Qf a b&&BV r s
 |_,_=>false
theorem w9:∀{p q:List af},BV p q=true↔p=q
 |[],[]=>by simp[BV]
 |a::r,b::s=>by
  show(Qf a b&&BV r s)=true↔_
  rw[Bool.and_eq_true,ER,w9,List.cons.injEq]
 |[],b::s=>by simp[BV]
 |a::r,[]=>by simp[BV]
theorem KS(p:List af):BV p p=true:=w9.2 rfl
theorem JI{p q:List af}(h:p≠q):BV p q=false:=by
 cases hb:BV p q with
 |true=>exact absurd (w9.1 hb) h
 |false=>rfl
namespace Uf
theorem Words(a b:Sym.Words)(hl:a.length<9223372036854775807):Cp 149 [aa a,aa b] (vB (decide (a=b))):=by
 by_cases h:a.length=b.length
 ·have loop:∀(j t:Nat),a.length-t=j→t≤a.length→a.take t=b.take t→eg.ah a b t (vB (decide (a=b))):=by
   intro j
   induction j with
   |zero =>
    intro t hj ht he
    rw[List.take_of_length_le (by omega),List.take_of_length_le (by omega)] at he
    rw[decide_eq_true he]
    exact eg.kM a b t (by omega)
   |succ j ih =>
    intro t hj ht he
    obtain⟨v,hv⟩:∃v,a[t]? = some v:=⟨_,List.getElem?_eq_getElem (by omega)⟩
    obtain⟨w,hw⟩:∃w,b[t]? = some w:=⟨_,List.getElem?_eq_getElem (by omega)⟩
    by_cases h0:v.toNat=w.toNat
    ·exact eg.cR a b t v w (by omega) hv hw h0 (by omega) (ih (t+1) (by omega) (by omega) (by rw[List.take_add_one,List.take_add_one,he,hv,hw,RL h0]))
    ·have di:a≠b:=by
      intro e;subst e
      rw[hv] at hw;injection hw with hw
      exact h0 (by rw[hw])
     rw[decide_eq_false di]
     exact eg.l10 a b t v w (by omega) hv hw h0
  exact eg.e1 a b h (loop _ 0 rfl (by omega) rfl)
 ·rw[decide_eq_false (fun e=>h (by rw[e]))]
  exact eg.e0 a b h
theorem Rat(a b:af)(h1:a.num.length<9223372036854775807)(h2:a.den.length<9223372036854775807):Cp 73 [a.pv,b.pv] (vB (Qf a b)):=by
 unfold Qf
 by_cases hn:a.neg=b.neg
 ·rw[decide_eq_true hn,Bool.true_and]
  have w1:=Words a.num b.num h1
  have w2:=Words a.den b.den h2
  cases hw:decide (a.num=b.num) with
  |true=>rw[Bool.true_and];rw[hw] at w1;exact j5.e0 a b _ _ hn w1 rfl w2
  |false=>rw[Bool.false_and];rw[hw] at w1;exact j5.e1 a b _ hn w1 rfl
 ·rw[decide_eq_false hn,Bool.false_and]
  exact j5.e2 a b hn
theorem Xf(p q:List af)(hl:p.length<9223372036854775807)(hf:∀a∈p,a.num.length<9223372036854775807∧a.den.length<9223372036854775807):Cp 108 [ae p,ae q] (vB (BV p q)):=by
 by_cases h:p.length=q.length
 ·have loop:∀(j t:Nat),p.length-t=j→t≤p.length→p.take t=q.take t→eK.ah p q t (vB (BV p q)):=by
   intro j
   induction j with
   |zero =>
    intro t hj ht he
    rw[List.take_of_length_le (by omega),List.take_of_length_le (by omega)] at he
    rw[w9.2 he]
    exact eK.kM p q t (by omega)
   |succ j ih =>
    intro t hj ht he
    obtain⟨v,hv⟩:∃v,p[t]? = some v:=⟨_,List.getElem?_eq_getElem (by omega)⟩
    obtain⟨w,hw⟩:∃w,q[t]? = some w:=⟨_,List.getElem?_eq_getElem (by omega)⟩
    have N5:=hf v (List.mem_of_getElem? hv)
    have hr:=Rat v w N5.1 N5.2
    cases h0:Qf v w with
    |true =>
     rw[h0] at hr
     exact eK.cR p q t v w _ (by omega) hv hw hr rfl (by omega) (ih (t+1) (by omega) (by omega) (by rw[List.take_add_one,List.take_add_one,he,hv,hw,ER.1 h0]))
    |false =>
     have di:p≠q:=by
      intro e;subst e
      rw[hv] at hw;injection hw with hw
      rw[hw,Gw] at h0;cases h0
     rw[JI di]
     rw[h0] at hr
     exact eK.l10 p q t v w _ (by omega) hv hw hr rfl
  exact eK.e1 p q h (loop _ 0 rfl (by omega) rfl)
 ·rw[JI (fun e=>h (by rw[e]))]
  exact eK.e0 p q h
theorem YR(e:Option Int):Cp 17 [bw e] (vI (e.getD 0)):=by
 cases e with
 |none=>exact mP.e0
 |some n=>exact mP.e1 n
end Uf
theorem gA(a:Rat)(r:List Rat):aL (a::r)=bif (aL r).isEmpty&&decide (a=0) then [] else a::aL r:=rfl
theorem nI(a:Rat)(r:List Rat):(aL r=[]∧a=0∧aL (a::r)=[])∨aL (a::r)=a::aL r:=by
 rw[gA]
 cases h:(aL r).isEmpty&&decide (a=0) with
 |false=>exact Or.inr rfl
 |true =>
  rw[Bool.and_eq_true] at h
  exact Or.inl ⟨List.isEmpty_iff.1 h.1,of_decide_eq_true h.2,rfl⟩
theorem gH:∀q:List Rat,(aL q).length≤q.length
 |[]=>by simp[aL]
 |a::r=>by
  rcases nI a r with ⟨_,_,e⟩|e
  ·rw[e];simp
  ·rw[e];simpa using gH r
theorem bh:∀q:List Rat,aK (aL q)=false
 |[]=>rfl
 |a::r=>by
  have ih:=bh r
  rw[gA]
  cases h:aL r with
  |nil =>
   by_cases h0:a=0
   ·rw[decide_eq_true h0];rfl
   ·rw[decide_eq_false h0]
    unfold aK
    exact decide_eq_false h0
  |cons b s =>
   rw[h] at ih
   unfold aK at ih ⊢
   rw[show (bif (b::s).isEmpty&&decide (a=0) then [] else a::b::s)=a::b::s from rfl]
   rw[List.getLast?_cons_cons]
   exact ih
theorem kE:∀{q:List Rat},aK q=false→aL q=q
 |[],_=>rfl
 |[a],h=>by
  unfold aK at h
  have h:¬a=0:=of_decide_eq_false h
  rw[gA,decide_eq_false h];rfl
 |a::b::s,h=>by
  unfold aK at h
  rw[List.getLast?_cons_cons] at h
  have:=kE (q:=b::s) h
  rw[gA,this];rfl
theorem fj{q:List Rat}(h:aK q=false)(hl:q.length≤65):py (q.map aJ)=0:=by
 unfold py
 rw[if_neg (by rw[List.length_map];omega),eS,h]
 rw[show (q.map aJ).all af.valid=true from by
  rw[List.all_eq_true]
  intro a ha
  obtain⟨x,_,rfl⟩:=List.mem_map.1 ha
  exact ri x]
 rfl
theorem bN(x:Rat):∀q:List Rat,evalL (aL q) x=evalL q x
 |[]=>rfl
 |a::r=>by
  have ih:=bN x r
  rcases nI a r with ⟨h1,h2,e⟩|e
  ·rw[e,evalL,evalL,←ih,h1,h2,evalL];grind
  ·rw[e,evalL,evalL,ih]
theorem Iw(q:List Rat):(aL q).drop 1=aL (q.drop 1):=by
 cases q with
 |nil=>rfl
 |cons a r =>
  rcases nI a r with ⟨h1,h2,e⟩|e
  ·rw[e];exact h1.symm
  ·rw[e];rfl
theorem BW:∀(q:List Rat) (i:Nat),aL (gz i (aL q))=aL (gz i q)
 |[],_=>rfl
 |a::r,i=>by
  have ih:=BW r (i+1)
  rcases nI a r with ⟨h1,h2,e⟩|e
  ·rw[e,gz,gz,gA,←ih,h1,h2]
   rw[show ((i:Int):Rat)*0=0 from by grind];rfl
  ·rw[e,gz,gz,gA,gA,ih]
theorem vb(q:List Rat):ak (aL q)=ak q:=by
 unfold ak
 rw[Iw,BW]
theorem CR(q:List Rat)(x:Rat):evalL (ak q) x=evalL (gz 1 (q.drop 1)) x:=by
 unfold ak
 rw[bN]
theorem zm(q:List Rat):(ak q).length≤q.length:=by
 unfold ak
 have:=gH (gz 1 (q.drop 1))
 rw[nH,List.length_drop] at this
 omega
theorem bj(q:List Rat):aK (ak q)=false:=bh _
def coef(p:List Rat)(i:Nat):Rat:=p[i]?.getD 0
def cY:List Rat→List Rat→List Rat
 |[],q=>q
 |a::p,[]=>a::p
 |a::p,b::q=>(a+b)::cY p q
def a6(c:Rat)(q:List Rat):List Rat:=q.map (fun x=>c*x)
def mulL:List Rat→List Rat→List Rat
 |[],_=>[]
 |a::p,q=>cY (a6 a q) (0::mulL p q)
def fc(s:Nat)(q:List Rat):List Rat:=List.replicate s 0++q
theorem kF(i:Nat):coef [] i=0:=rfl
theorem uq(a:Rat)(p:List Rat):coef (a::p) 0=a:=rfl
theorem fe(a:Rat)(p:List Rat)(i:Nat):coef (a::p) (i+1)=coef p i:=rfl
theorem ni{p:List Rat}{i:Nat}{v:Rat}(h:p[i]? = some v):coef p i=v:=by unfold coef;rw[h];rfl
theorem c9{p:List Rat}{i:Nat}(h:p.length≤i):coef p i=0:=by unfold coef;rw[List.getElem?_eq_none h];rfl
theorem pf{p:List Rat}{i:Nat}(h:i<p.length):p[i]? = some (coef p i):=by unfold coef;rw[List.getElem?_eq_getElem h];rfl
theorem fX:∀(p q:List Rat) (i:Nat),coef (cY p q) i=coef p i+coef q i
 |[],q,i=>by rw[cY,kF,Rat.zero_add]
 |a::p,[],i=>by rw[cY,kF,Rat.add_zero]
 |a::p,b::q,0=>rfl
 |a::p,b::q,i+1=>by rw[cY,fe,fe,fe,fX p q i]
theorem ct(c:Rat)(q:List Rat)(i:Nat):coef (a6 c q) i=c*coef q i:=by
 unfold coef a6
 rw[List.getElem?_map]
 cases q[i]? with
 |none=>show(0:Rat)=c*0;rw[Rat.mul_zero]
 |some v=>rfl
theorem vc(a:Rat)(p q:List Rat)(i:Nat):coef (mulL (a::p) q) i=a*coef q i+coef (0::mulL p q) i:=by rw[mulL,fX,ct]
theorem jP(s:Nat)(q:List Rat)(i:Nat):coef (fc s q) i=if i<s then 0 else coef q (i-s):=by
 unfold coef fc
 split
 ·rename_i h
  rw[List.getElem?_append_left (by rw[List.length_replicate];exact h),List.getElem?_replicate,if_pos h];rfl
 ·rename_i h
  rw[List.getElem?_append_right (by rw[List.length_replicate];omega),List.length_replicate]
theorem Gx:∀(p q:List Rat),(cY p q).length=max p.length q.length
 |[],q=>by rw[cY,List.length_nil,Nat.zero_max]
 |a::p,[]=>by rw[cY,List.length_nil,Nat.max_zero]
 |a::p,b::q=>by rw[cY,List.length_cons,List.length_cons,List.length_cons,Gx p q];omega
theorem jr(c:Rat)(q:List Rat):(a6 c q).length=q.length:=List.length_map ..
theorem kc:∀{p q:List Rat},(∀i,coef p i=coef q i)→aL p=aL q
 |[],[],_=>rfl
 |[],b::q,h=>by
  have h0:(0:Rat)=b:=h 0
  have:=kc (p:=[]) (q:=q) (fun i=>h (i+1))
  rw[gA,←this,←h0];rfl
 |a::p,[],h=>by
  have h0:a=(0:Rat):=h 0
  have:=kc (p:=p) (q:=[]) (fun i=>h (i+1))
  rw[gA,this,h0];rfl
 |a::p,b::q,h=>by
  have h0:a=b:=h 0
  rw[gA,gA,kc (p:=p) (q:=q) (fun i=>h (i+1)),h0]
theorem dC:∀(p:List Rat) (i:Nat),coef (aL p) i=coef p i
 |[],_=>rfl
 |a::r,i=>by
  rcases nI a r with ⟨h1,h2,e⟩|e
  ·rw[e]
   cases i with
   |zero=>exact h2.symm
   |succ i=>rw[fe,←dC r i,h1,kF,kF]
  ·rw[e]
   cases i with
   |zero=>rfl
   |succ i=>rw[fe,fe,dC r i]
theorem kG{p q:List Rat}(hp:aK p=false)(hq:aK q=false)(h:∀i,coef p i=coef q i):p=q:=by
 rw[←kE hp,←kE hq];exact kc h
theorem bD(x:Rat):∀(p q:List Rat),evalL (cY p q) x=evalL p x+evalL q x
 |[],q=>by rw[cY,evalL,Rat.zero_add]
 |a::p,[]=>by rw[cY,show evalL [] x=0 from rfl,Rat.add_zero]
 |a::p,b::q=>by rw[cY,evalL,evalL,evalL,bD x p q];grind
theorem aU(c x:Rat):∀(q:List Rat),evalL (a6 c q) x=c*evalL q x
 |[]=>by show(0:Rat)=c*0;rw[Rat.mul_zero]
 |a::q=>by
  have:=aU c x q
  show evalL (a6 c q) x*x+c*a=c*(evalL q x*x+a)
  rw[this];grind
theorem aE(x:Rat):∀(p q:List Rat),evalL (mulL p q) x=evalL p x*evalL q x
 |[],q=>by show(0:Rat)=0*_;rw[Rat.zero_mul]
 |a::p,q=>by
  rw[mulL,bD,aU,evalL,aE x p q,evalL];grind
theorem sq(x:Rat):∀(s:Nat) (q:List Rat),evalL (fc s q) x=x^s*evalL q x
 |0,q=>by show evalL q x=_;rw[Rat.pow_zero,Rat.one_mul]
 |s+1,q=>by
  have:=sq x s q
  show evalL (fc s q) x*x+0=_
  rw[this,Rat.pow_succ];grind
def Gy(c:Rat):List Rat→List Rat
 |[]=>[]
 |[_]=>[]
 |_::b::r=>evalL (b::r) c::Gy c (b::r)
theorem Gz(c:Rat):∀p:List Rat,(Gy c p).length=p.length-1
 |[]=>rfl
 |[_]=>rfl
 |_::b::r=>by rw[Gy,List.length_cons,Gz c (b::r)];simp
theorem DD(c x:Rat):∀p:List Rat,evalL p x=evalL p c+(x-c)*evalL (Gy c p) x
 |[]=>by show(0:Rat)=0+(x-c)*0;grind
 |[a]=>by show 0*x+a=(0*c+a)+(x-c)*0;grind
 |a::b::r=>by
  have:=DD c x (b::r)
  rw[Gy]
  show evalL (b::r) x*x+a=(evalL (b::r) c*c+a)+(x-c)*(evalL (Gy c (b::r)) x*x+evalL (b::r) c)
  rw[this]
  grind
theorem DE(c:Rat):∀p:List Rat,evalL p c=0→(∀y∈Gy c p,y=0)→∀y∈p,y=0
 |[],_,_=>fun y h=>by cases h
 |[a],h,_=>fun y hy=>by
  have h:0*c+a=0:=h
  rw[List.mem_singleton.1 hy];grind
 |a::b::r,h,hq=>fun y hy=>by
  rw[Gy] at hq
  have h1:=hq _ (List.mem_cons_self ..)
  have ih:=DE c (b::r) h1 (fun z hz=>hq z (List.mem_cons_of_mem _ hz))
  rcases List.mem_cons.1 hy with e|hy
  ·rw[evalL,h1] at h
   rw[e];grind
  ·exact ih y hy
theorem DH:∀(n:Nat) (p:List Rat) (N:Nat),p.length≤n→(∀m:Nat,N≤m→evalL p ((m:Int):Rat)=0)→∀y∈p,y=0
 |0,p,N,hl,_=>fun y hy=>by
  have:p=[]:=List.eq_nil_of_length_eq_zero (by omega)
  rw[this] at hy;cases hy
 |n+1,p,N,hl,h=>by
  have h0:=h N (Nat.le_refl _)
  refine DE _ p h0 (DH n _ (N+1) (by rw[Gz];omega) (fun m hm => ?_))
  have h1:=h m (by omega)
  rw[DD ((N:Int):Rat) _ p,h0,Rat.zero_add] at h1
  rcases Rat.mul_eq_zero.1 h1 with e|e
  ·have:((m:Int):Rat)=((N:Int):Rat):=by grind
   have:=Rat.intCast_inj.1 this
   omega
  ·exact e
theorem M1{p:List Rat}(h:∀y∈p,y=0)(i:Nat):coef p i=0:=by
 unfold coef
 cases hv:p[i]? with
 |none=>rfl
 |some v=>exact h v (List.mem_of_getElem? hv)
theorem fY{p q:List Rat}(h:∀x,evalL p x=evalL q x)(i:Nat):coef p i=coef q i:=by
 have hz:=DH _ (cY p (a6 (-1) q)) 0 (Nat.le_refl _) (fun m _=>by rw[bD,aU,h];grind)
 have:=M1 hz i
 rw[fX,ct] at this
 grind
theorem GA{p q:List Rat}(h:∀x,evalL p x=evalL q x):aL p=aL q:=kc (fY h)
theorem ur{k:Nat}{p:List Rat}(h:Fl k p)(hk:1≤k)(i:Nat):ht (coef p i)≤k:=by
 unfold coef
 cases hv:p[i]? with
 |none=>exact Nat.le_trans (Nat.le_of_eq jA) hk
 |some v=>exact h v (List.mem_of_getElem? hv)
theorem lj{k:Nat}{p:List Rat}(h:∀i,ht (coef p i)≤k):Fl k p:=by
 intro x hx
 obtain⟨i,hi⟩:=List.mem_iff_getElem?.1 hx
 have:=h i
 rwa[ni hi] at this
theorem eA{k m:Nat}{q:List Rat}(h:Fl k q)(hk:k≤m):Fl m q:=fun x hx=>Nat.le_trans (h x hx) hk
def kH(m:Nat)(g:Nat→Rat):List Rat:=(List.range m).map g
theorem cZ(m:Nat)(g:Nat→Rat):(kH m g).length=m:=by unfold kH;rw[List.length_map,List.length_range]
theorem gR{m i:Nat}(g:Nat→Rat)(h:i<m):(kH m g)[i]? = some (g i):=by
 unfold kH;rw[List.getElem?_map,List.getElem?_range h];rfl
theorem M3{m i:Nat}(g:Nat→Rat)(v:Rat)(h:i<m):(kH m g).set i v=kH m (fun j=>if j=i then v else g j):=by
 refine List.ext_getElem? fun j => ?_
 by_cases hj:j<m
 ·rw[gR _ hj]
  by_cases e:j=i
  ·subst e
   rw[List.getElem?_set_self (by rw[cZ];exact h),if_pos rfl]
  ·rw[List.getElem?_set_ne (by omega),gR _ hj,if_neg e]
 ·rw[List.getElem?_eq_none (by rw[List.length_set,cZ];omega),List.getElem?_eq_none (by rw[cZ];omega)]
theorem DI(m:Nat):List.replicate m (⟨false,[],[]⟩:af)=(kH m (fun _=>0)).map aJ:=by
 refine List.ext_getElem? fun j => ?_
 rw[List.getElem?_map]
 by_cases hj:j<m
 ·rw[gR _ hj,List.getElem?_replicate,if_pos hj];rfl
 ·rw[List.getElem?_eq_none (by rw[List.length_replicate];omega),List.getElem?_eq_none (by rw[cZ];omega)];rfl
theorem DJ{m:Nat}{g:Nat→Rat}(h:∀i,m≤i→g i=0)(i:Nat):coef (kH m g) i=g i:=by
 by_cases hi:i<m
 ·exact ni (gR g hi)
 ·rw[c9 (by rw[cZ];omega),h i (by omega)]
theorem Ix{m:Nat}{f g:Nat→Rat}(h:∀i,i<m→f i=g i):kH m f=kH m g:=by
 unfold kH
 exact List.map_congr_left (fun i hi=>h i (List.mem_range.1 hi))
def bX(p:List Rat):Rat:=coef p (p.length-1)
theorem cE{p:List Rat}(hz:aK p=false)(h:p≠[]):bX p≠0:=by
 unfold aK at hz
 have hl:=List.length_pos_iff.2 h
 rw[List.getLast?_eq_getElem?,pf (p:=p) (i:=p.length-1) (by omega)] at hz
 exact of_decide_eq_false hz
theorem tH{p:List Rat}{n:Nat}(h:∀i,n≤i→coef p i=0):(aL p).length≤n:=by
 refine Nat.le_of_not_lt fun ba => ?_
 have di:aL p≠[]:=by intro e;rw[e] at ba;simp at ba
 have:=cE (bh p) di
 unfold bX at this
 rw[dC,h _ (by omega)] at this
 exact this rfl
def stepC(rest q:List Rat):Rat:=bX rest/bX q
def mD(rest q:List Rat):List Rat:=aL (cY rest (fc (rest.length-q.length) (a6 (-(stepC rest q)) q)))
def nW:Nat→List Rat→List Rat→List Rat→List Rat×List Rat
 |0,out,rest,_=>(out,rest)
 |n+1,out,rest,q=>bif Nat.blt rest.length q.length then (out,rest) else nW n (aL (cY out (fc (rest.length-q.length) [stepC rest q]))) (mD rest q) q
def cX(p q:List Rat):List Rat×List Rat:=nW (p.length+1) [] (aL p) q
def bk(p q:List Rat):List Rat:=(cX p q).2
def bP(p:List Rat):List Rat:=aL (a6 (1/bX p) p)
def gB:Nat→List Rat→List Rat→List Rat
 |0,p,_=>p
 |n+1,p,q=>bif Nat.beq q.length 0 then p else gB n q (bP (bk p q))
def bE(p q:List Rat):List Rat:=bP (gB (q.length+1) p q)
def bH(p:List Rat):List Rat:=bP (cX p (bE p (ak p))).1
theorem xa{a b:Nat} : Nat.blt a b=true↔a<b:=by rw[Nat.blt_eq]
theorem uu{a b:Nat} : Nat.blt a b=false↔b≤a:=by
 constructor
 ·intro h;exact Nat.le_of_not_lt fun e=>by rw[xa.2 e] at h;cases h
 ·intro h
  cases hb:Nat.blt a b with
  |true=>have:=xa.1 hb;omega
  |false=>rfl
theorem DK{rest q:List Rat}(hq:bX q≠0):stepC rest q*bX q=bX rest:=by
 unfold stepC
 rw[Rat.div_mul_cancel hq]
theorem ow{rest q:List Rat}(hq:bX q≠0)(nP:q.length≠0)(hl:q.length≤rest.length):(mD rest q).length<rest.length:=by
 have h:=tH (p:=cY rest (fc (rest.length-q.length) (a6 (-(stepC rest q)) q))) (n:=rest.length-1) (fun i hi=>by
  rw[fX,jP,ct,if_neg (by omega)]
  by_cases e:i=rest.length-1
  ·have h1:=DK (rest:=rest) hq
   unfold bX at h1
   rw[e,show rest.length-1-(rest.length-q.length)=q.length-1 from by omega]
   grind
  ·rw[c9 (p:=rest) (by omega),c9 (p:=q) (by omega)];grind)
 unfold mD
 omega
theorem Iy(rest q:List Rat)(x:Rat):evalL (mD rest q) x=evalL rest x-x^(rest.length-q.length)*stepC rest q*evalL q x:=by
 unfold mD
 rw[bN,bD,sq,aU];grind
theorem DL{q:List Rat}(hq:bX q≠0)(nP:q.length≠0):∀(n:Nat) (out rest:List Rat),rest.length<n →
  (nW n out rest q).2.length<q.length∧∀x,evalL (nW n out rest q).1 x*evalL q x+evalL (nW n out rest q).2 x=evalL out x*evalL q x+evalL rest x
 |0,out,rest,h=>by omega
 |n+1,out,rest,h=>by
  rw[nW]
  cases hb:Nat.blt rest.length q.length with
  |true=>exact⟨xa.1 hb,fun x=>rfl⟩
  |false =>
   have hl:=uu.1 hb
   have h1:=ow hq nP hl
   rw[cond_false]
   obtain⟨g1,g2⟩:=DL hq nP n (aL (cY out (fc (rest.length-q.length) [stepC rest q]))) (mD rest q) (by omega)
   refine⟨g1,fun x => ?_⟩
   rw[g2 x,Iy,bN,bD,sq]
   have:evalL [stepC rest q] x=stepC rest q:=by show 0*x+stepC rest q=stepC rest q;grind
   rw[this];grind
theorem DM{q:List Rat} : ∀(n:Nat) (out rest:List Rat),aK out=false→aK rest=false→aK (nW n out rest q).1=false∧aK (nW n out rest q).2=false
 |0,out,rest,h1,h2=>⟨h1,h2⟩
 |n+1,out,rest,h1,h2=>by
  rw[nW]
  cases Nat.blt rest.length q.length with
  |true=>exact⟨h1,h2⟩
  |false=>exact DM n _ _ (bh _) (bh _)
theorem fZ{q:List Rat}(p:List Rat)(hz:aK q=false)(nP:q≠[]):(cX p q).2.length<q.length∧∀x,evalL (cX p q).1 x*evalL q x+evalL (cX p q).2 x=evalL p x:=by
 have hl:=List.length_pos_iff.2 nP
 obtain⟨g1,g2⟩:=DL (cE hz nP) (by omega) (p.length+1) [] (aL p) (by have:=gH p;omega)
 refine⟨g1,fun x => ?_⟩
 show evalL (nW _ _ _ _).1 x*_+evalL (nW _ _ _ _).2 x=_
 rw[g2 x,bN]
 show(0:Rat)*_+_=_
 grind
theorem kd(p q:List Rat):aK (cX p q).1=false∧aK (cX p q).2=false:=DM _ _ _ rfl (bh _)
theorem iT:∀(p q:List Rat),p≠[]→q≠[]→coef (mulL p q) (p.length+q.length-2)=bX p*bX q
 |[],q,h,_=>absurd rfl h
 |[a],q,_,hq=>by
  have hl:=List.length_pos_iff.2 hq
  rw[vc]
  show a*coef q ([a].length+q.length-2)+coef [0] _=a*coef q (q.length-1)
  rw[show [a].length+q.length-2=q.length-1 from by simp;omega]
  have:coef [0] (q.length-1)=0:=by
   cases q.length-1 with
   |zero=>rfl
   |succ n=>rfl
  rw[this,Rat.add_zero]
 |a::b::r,q,_,hq=>by
  have hl:=List.length_pos_iff.2 hq
  have ih:=iT (b::r) q (by simp) hq
  rw[vc,c9 (p:=q) (by simp;omega)]
  rw[show (a::b::r).length+q.length-2=((b::r).length+q.length-2)+1 from by simp;omega,fe,ih]
  have:bX (a::b::r)=bX (b::r):=by
   unfold bX
   rw[show (a::b::r).length-1=((b::r).length-1)+1 from by simp,fe]
  rw[this];grind
theorem tI{p:List Rat}{i:Nat}(h:coef p i≠0):i<p.length:=by
 refine Nat.lt_of_not_le fun e=>h (c9 e)
theorem xb{p q a r:List Rat}(hz:aK q=false)(nP:q≠[])(ha:aK a=false)(hr:aK r=false)(hl:r.length<q.length)(h:∀x,evalL a x*evalL q x+evalL r x=evalL p x):cX p q=(a,r):=by
 obtain⟨g1,g2⟩:=fZ p hz nP
 obtain⟨t1,t2⟩:=kd p q
 have ea:(cX p q).1=a:=by
  refine kG t1 ha (fun i => ?_)
  have key:aL (cY (cX p q).1 (a6 (-1) a))=[]:=by
   refine Classical.byContradiction fun di => ?_
   have h1:=iT _ q di nP
   have h2:bX (aL (cY (cX p q).1 (a6 (-1) a)))*bX q≠0:=by
    intro e
    rcases Rat.mul_eq_zero.1 e with e|e
    ·exact cE (bh _) di e
    ·exact cE hz nP e
   have h3:=fY (p:=mulL (aL (cY (cX p q).1 (a6 (-1) a))) q) (q:=cY r (a6 (-1) (cX p q).2)) (fun x=>by
    have:=g2 x
    have:=h x
    rw[aE,bN,bD,aU,bD,aU];grind) ((aL (cY (cX p q).1 (a6 (-1) a))).length+q.length-2)
   rw[h1,fX,ct] at h3
   have hp:=List.length_pos_iff.2 di
   rw[c9 (p:=r) (by omega),c9 (p:=(cX p q).2) (by omega)] at h3
   exact h2 (by rw[h3];grind)
  have:=dC (cY (cX p q).1 (a6 (-1) a)) i
  rw[key,fX,ct,kF] at this
  grind
 have er:(cX p q).2=r:=by
  refine kG t2 hr (fY (fun x => ?_))
  have h1:=g2 x
  have h2:=h x
  rw[ea] at h1
  grind
 exact Prod.ext ea er
theorem iB{p:List Rat} : aK p=false→∀c,c≠0→aK (a6 c p)=false:=by
 intro hz c hc
 by_cases h:p=[]
 ·subst h;rfl
 ·have:=cE hz h
  unfold bX at this
  unfold aK
  have hl:=List.length_pos_iff.2 h
  rw[List.getLast?_eq_getElem?,jr,pf (by rw[jr];omega),ct]
  show decide (c*_=0)=false
  refine decide_eq_false (fun e => ?_)
  rcases Rat.mul_eq_zero.1 e with e|e
  ·exact hc e
  ·exact this e
theorem pg{c:Rat}(h:c≠0):1/c≠0:=by
 intro e
 have:=Rat.div_mul_cancel (a:=1) h
 rw[e,Rat.zero_mul] at this
 exact absurd this (by decide)
theorem mU{p:List Rat}(hz:aK p=false)(h:p≠[]):bP p=a6 (1/bX p) p:=by
 unfold bP
 exact kE (iB hz _ (pg (cE hz h)))
theorem bW(p:List Rat):aK (bP p)=false:=bh _
theorem bL{p:List Rat}(hz:aK p=false):(bP p).length=p.length:=by
 by_cases h:p=[]
 ·subst h;rfl
 ·rw[mU hz h,jr]
theorem iF{p:List Rat}(x:Rat):evalL (bP p) x=1/bX p*evalL p x:=by
 unfold bP
 rw[bN,aU]
theorem ox{p:List Rat}(hz:aK p=false)(h:p≠[]):bP p≠[]:=by
 intro e
 have:=bL hz
 rw[e] at this
 exact h (List.eq_nil_of_length_eq_zero this.symm)
theorem zn{p:List Rat}{c:Rat}(hz:aK p=false)(hc:c≠0):bP (a6 c p)=bP p:=by
 by_cases h:p=[]
 ·subst h;rfl
 ·have ht:=cE hz h
  have e:bX (a6 c p)=c*bX p:=by unfold bX;rw[jr,ct]
  refine kG (bW _) (bW _) (fY (fun x => ?_))
  rw[iF,iF,e,aU]
  have h1:=Rat.div_mul_cancel (a:=1) ht
  have hct:c*bX p≠0:=fun e=>by rcases Rat.mul_eq_zero.1 e with e|e;exact hc e;exact ht e
  have h2:=Rat.div_mul_cancel (a:=1) hct
  have h3:1/(c*bX p)*c=1/bX p:=by
   have:(1/(c*bX p)*c-1/bX p)*bX p=0:=by grind
   rcases Rat.mul_eq_zero.1 this with e|e
   ·grind
   ·exact absurd e ht
  grind
theorem qt{p:List Rat}(hz:aK p=false):bP (bP p)=bP p:=by
 by_cases h:p=[]
 ·subst h;rfl
 ·rw[mU hz h,zn hz (pg (cE hz h)),mU hz h]
theorem yh{p q:List Rat}{a b:Rat}(hz:aK q=false)(hq:q≠[])(ha:a≠0)(hb:b≠0):bk (a6 a p) (a6 b q)=a6 a (bk p q):=by
 obtain⟨g1,g2⟩:=fZ p hz hq
 obtain⟨t1,t2⟩:=kd p q
 have dF:a/b≠0:=by
  intro e
  have:=Rat.div_mul_cancel (a:=a) hb
  rw[e,Rat.zero_mul] at this
  exact ha this.symm
 have:=xb (p:=a6 a p) (q:=a6 b q) (a:=a6 (a/b) (cX p q).1) (r:=a6 a (cX p q).2) (iB hz b hb) (by
  intro e;have:=congrArg List.length e;rw[jr] at this;exact hq (List.eq_nil_of_length_eq_zero this)) (iB t1 _ dF) (iB t2 _ ha) (by rw[jr,jr];exact g1) (fun x=>by
  have h1:=g2 x
  have h2:=Rat.div_mul_cancel (a:=a) hb
  rw[aU,aU,aU,aU,←h1]
  grind)
 unfold bk
 rw[this]
theorem cL(p q:List Rat):aK (bk p q)=false:=(kd p q).2
theorem uv(q:List Rat):a6 1 q=q:=by
 unfold a6
 conv=>rhs;rw[←List.map_id q]
 exact List.map_congr_left (fun x _=>Rat.one_mul x)
theorem BX{p q:List Rat}(hp:aK p=false)(hq:aK q=false)(h:q≠[]):bP (bk (bP p) q)=bP (bk p q):=by
 by_cases iY:p=[]
 ·subst iY;rfl
 ·rw[mU hp iY]
  have:=yh (p:=p) (a:=1/bX p) (b:=1) hq h (pg (cE hp iY)) (by decide)
  rw[uv] at this
  rw[this,zn (cL _ _) (pg (cE hp iY))]
theorem GB{p q:List Rat}(hp:aK p=false)(hq:aK q=false)(h:q≠[]):bP (bk (bP p) (bP q))=bP (bk p q):=by
 have e:bk p (bP q)=bk p q:=by
  rw[mU hq h]
  have:=yh (p:=p) (a:=1) (b:=1/bX q) hq h (by decide) (pg (cE hq h))
  rwa[uv,uv] at this
 rw[BX hp (bW _) (ox hq h),e]
theorem BY:∀(n:Nat) (p q:List Rat),aK p=false→aK q=false→bP q=q→gB n (bP p) q=bP (gB n p q)
 |0,p,q,_,_,_=>rfl
 |n+1,p,q,hp,hq,hm=>by
  rw[gB,gB]
  by_cases h:q.length=0
  ·rw[beq_iff.2 h,cond_true,cond_true]
  ·have di:q≠[]:=fun e=>h (by rw[e];rfl)
   rw[fh.2 h,cond_false,cond_false,BX hp hq di]
   have ih:=BY n q (bP (bk p q)) hq (bW _) (qt (cL _ _))
   rwa[hm] at ih
theorem JJ(p q:List Rat)(hp:aK p=false)(hq:aK q=false):gB (q.length+1) (bP p) (bP q)=bE p q:=by
 unfold bE
 rw[gB,gB,bL hq]
 by_cases h:q.length=0
 ·rw[beq_iff.2 h,cond_true,cond_true]
 ·have di:q≠[]:=fun e=>h (by rw[e];rfl)
  rw[fh.2 h,cond_false,cond_false,GB hp hq di]
  exact BY _ q _ hq (bW _) (qt (cL _ _))
theorem ke:∀(n:Nat) (p q:List Rat),aK p=false→aK q=false→aK (gB n p q)=false
 |0,p,q,hp,_=>hp
 |n+1,p,q,hp,hq=>by
  rw[gB]
  cases Nat.beq q.length 0 with
  |true=>exact hp
  |false=>exact ke n _ _ hq (bW _)
theorem eu(p q:List Rat):aK (bE p q)=false:=bW _
theorem xc:∀(n:Nat) (p q:List Rat),p≠[]∨(q≠[]∧0<n)→gB n p q≠[]
 |0,p,q,h=>by rcases h with h|⟨_,h⟩;exact h;omega
 |n+1,p,q,h=>by
  rw[gB]
  by_cases hq:q.length=0
  ·rw[beq_iff.2 hq,cond_true]
   rcases h with h|⟨h,_⟩
   ·exact h
   ·exact absurd (List.eq_nil_of_length_eq_zero hq) h
  ·rw[fh.2 hq,cond_false]
   exact xc n q _ (Or.inl (fun e=>hq (by rw[e];rfl)))
theorem Ar{p:List Rat}(q:List Rat)(hp:aK p=false)(hq:aK q=false)(h:p≠[]):bE p q≠[]:=ox (ke _ _ _ hp hq) (xc _ _ _ (Or.inl h))
end Go.Proofs.YtllmkadmohkbfaaGreatDoor.Sym
