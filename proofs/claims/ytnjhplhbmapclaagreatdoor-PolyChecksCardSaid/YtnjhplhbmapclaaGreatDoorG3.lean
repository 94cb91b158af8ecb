/- Lemmas for the statements of this seat. -/
import Derived.Test.YtnjhplhbmapclaaGreatDoorG2
import Derived.Test.YtnjhplhbmapclaaGreatDoorP2
import Derived.Test.YtnjhplhbmapclaaGreatDoorP3
namespace Go.Proofs.YtnjhplhbmapclaaGreatDoor.Sym
open Go Path ct
set_option linter.unusedVariables false
def aS(p:List ae):List Rat:=p.map ae.val
abbrev gO(k:Nat)(p:List ae):Prop:=∀a∈p,a.num.length≤k∧a.den.length≤k
abbrev Fl(k:Nat)(q:List Rat):Prop:=∀x∈q,ht x≤k
def aL:List Rat→List Rat
 |[]=>[]
 |a::r=>bif (aL r).isEmpty&&decide (a=0) then [] else a::aL r
theorem mq:∀q:List Rat,aL (q++[0])=aL q
 |[]=>rfl
 |a::r=>by
  show(bif (aL (r++[0])).isEmpty&&decide (a=0) then [] else a::aL (r++[0]))=_
  rw[mq r];rfl
theorem qa{v:Rat}(h:v≠0):∀{q:List Rat},aL (q++[v])=q++[v]
 |[]=>by
  show(bif (aL []).isEmpty&&decide (v=0) then [] else v::aL [])=[v]
  rw[decide_eq_false h,Bool.and_false];rfl
 |a::r=>by
  show(bif (aL (r++[v])).isEmpty&&decide (a=0) then [] else a::aL (r++[v]))=_
  rw[qa h]
  cases r<;>rfl
theorem wZ{α:Type}{q:List α}{n:Nat}{v:α}(h:q[n]? = some v)(hl:q.length=n+1):q=q.take n++[v]:=by
 have:=List.take_add_one (l:=q) (i:=n)
 rw[h,List.take_of_length_le (by omega)] at this
 exact this
theorem mr{k:Nat}{p:List ae}(h:gO k p)(hk:1≤k):Fl k (aS p):=by
 intro x hx
 unfold aS at hx
 obtain⟨a,ha,rfl⟩:=List.mem_map.1 hx
 exact fm (h a ha).1 (h a ha).2 hk
theorem A7{q:List Rat}(h:Fl 274877906944 q):gO 274877906944 (q.map ba):=by
 intro a ha
 obtain⟨x,hx,rfl⟩:=List.mem_map.1 ha
 exact iq (h x hx)
theorem dw{q:Rat}{k:Nat}(h:ht q≤k):(ba q).num.length≤k∧(ba q).den.length≤k:=by
 by_cases h0:q=0
 ·subst h0;constructor<;>simp[pY]
 ·rw[mo h0]
  exact⟨Nat.le_trans (dK q) h,Nat.le_trans (eA q) h⟩
theorem qb{q:List Rat}{k:Nat}(h:Fl k q):gO k (q.map ba):=by
 intro a ha
 obtain⟨x,hx,rfl⟩:=List.mem_map.1 ha
 exact dw (h x hx)
theorem jd(q:List Rat):aS (q.map ba)=q:=by
 unfold aS
 rw[List.map_map]
 conv=>rhs;rw[←List.map_id q]
 exact List.map_congr_left (fun x _=>cu x)
theorem FD{p:List ae}(h:p.all ae.valid=true):(aS p).map ba=p:=by
 unfold aS
 rw[List.map_map]
 conv=>rhs;rw[←List.map_id p]
 exact List.map_congr_left (fun x hx=>wW (List.all_eq_true.1 h x hx))
theorem BQ{p:List ae}{n:Nat}{v:ae}(h:p[n]? = some v):(aS p).drop n=v.val::(aS p).drop (n+1):=by
 obtain⟨h1,h2⟩:=List.getElem?_eq_some_iff.1 h
 unfold aS
 rw[List.drop_eq_getElem_cons (by simpa using h1),List.getElem_map,h2]
def aU(q:List Rat):Bool:=match q.getLast? with
 |none=>false
 |some v=>decide (v=0)
theorem uq{p:List ae}(h:aU (aS p)=true):∃v,0<p.length∧p[p.length-1]? = some v∧v.val=0:=by
 unfold aU aS at h
 rw[List.getLast?_map,List.getLast?_eq_getElem?] at h
 cases hv:p[p.length-1]? with
 |none=>rw[hv] at h;cases h
 |some v =>
  rw[hv] at h
  have h:decide (v.val=0)=true:=h
  exact⟨v,by have:=(List.getElem?_eq_some_iff.1 hv).1;omega,rfl,of_decide_eq_true h⟩
theorem rO{p:List ae}(h:aU (aS p)=false)(h0:p.length≠0):∃v,p[p.length-1]? = some v∧v.val≠0:=by
 unfold aU aS at h
 rw[List.getLast?_map,List.getLast?_eq_getElem?] at h
 obtain⟨v,hv⟩:∃v,p[p.length-1]? = some v:=⟨_,List.getElem?_eq_getElem (by omega)⟩
 rw[hv] at h
 have h:decide (v.val=0)=false:=h
 exact⟨v,hv,of_decide_eq_false h⟩
def q9(p:List ae):Int:=if 65<p.length then 4 else bif p.all ae.valid then (bif aU (aS p) then 8 else 0) else 2
def A8(n:Int):Option Int:=if n=0 then none else some n
theorem ur{n:Int}(h:n≠0):A8 n=some n:=if_neg h
theorem A9{p:List ae}(h:q9 p=0):p.length≤65:=by
 unfold q9 at h
 split at h
 ·cases h
 ·omega
theorem BR{p:List ae}(h:q9 p=0):p.all ae.valid=true:=by
 unfold q9 at h
 split at h
 ·cases h
 ·cases hv:p.all ae.valid with
  |true=>rfl
  |false=>rw[hv] at h;cases h
theorem DW{p:List ae}(h:q9 p=0):aU (aS p)=false:=by
 unfold q9 at h
 split at h
 ·cases h
 ·cases hv:p.all ae.valid with
  |false=>rw[hv] at h;cases h
  |true =>
   rw[hv] at h
   cases hz:aU (aS p) with
   |false=>rfl
   |true=>rw[hz] at h;cases h
def evalL:List Rat→Rat→Rat
 |[],_=>0
 |a::r,x=>evalL r x*x+a
theorem w5(q:List Rat)(x:Rat)(k:Nat)(h:Fl k q)(hx:ht x≤k):ht (evalL q x)≤q.length*(2*k+1)+1:=by
 induction q with
 |nil =>
  have:ht (evalL [] x)=1:=im
  omega
 |cons a r ih =>
  have h1:=ih (fun y hy=>h y (List.mem_cons_of_mem _ hy))
  have h2:=h a (List.mem_cons_self ..)
  have h3:=ki (evalL r x) x
  have h4:=uk (evalL r x*x) a
  show ht (evalL r x*x+a)≤_
  rw[List.length_cons,Nat.add_mul]
  omega
def nz:Nat→List Rat→List Rat
 |_,[]=>[]
 |i,a::r=>((i:Int):Rat)*a::nz (i+1) r
def cm(q:List Rat):List Rat:=aL (nz 1 (q.drop 1))
theorem qc:∀(q:List Rat) (i:Nat),(nz i q).length=q.length
 |[],_=>rfl
 |a::r,i=>by rw[nz,List.length_cons,List.length_cons,qc r]
theorem vA:∀(q:List Rat) (i:Nat) (a:Rat),nz i (q++[a])=nz i q++[(((i+q.length:Nat):Int):Rat)*a]
 |[],i,a=>rfl
 |b::r,i,a=>by
  rw[List.cons_append,nz,nz,vA r (i+1) a,List.length_cons,List.cons_append,show i+1+r.length=i+(r.length+1) from by omega]
theorem BS{p:List ae}{i:Nat}{v:ae}(hv:p[i]? = some v)(h:1≤i):nz 1 (((aS p).take (i+1)).drop 1)=nz 1 (((aS p).take i).drop 1)++[((i:Int):Rat)*v.val]:=by
 have h1:=(List.getElem?_eq_some_iff.1 hv).1
 have hm:(aS p)[i]? = some v.val:=by unfold aS;rw[List.getElem?_map,hv];rfl
 have hl:((aS p).take i).length=i:=by unfold aS;simp;omega
 rw[List.take_add_one,hm,List.drop_append_of_le_length (by omega)]
 show nz 1 (((aS p).take i).drop 1++[v.val])=_
 rw[vA,List.length_drop,hl,show 1+(i-1)=i from by omega]
theorem Ba{k:Nat}(hk:k+2≤274877906944):∀(q:List Rat) (i:Nat),i+q.length≤18446744073709551615→Fl k q→Fl 274877906944 (nz i q)
 |[],_,_,_=>fun x hx=>by cases hx
 |a::r,i,hi,h=>by
  intro x hx
  rw[List.length_cons] at hi
  rcases List.mem_cons.1 hx with e|hx
  ·rw[e]
   have h1:=ki ((i:Int):Rat) a
   have h2:=h a (List.mem_cons_self ..)
   have h3:ht ((i:Int):Rat)≤2:=by
    rw[DP]
    have:wl (i:Int)≤2:=uh (by omega)
    omega
   omega
  ·exact Ba hk r (i+1) (by omega) (fun y hy=>h y (List.mem_cons_of_mem _ hy)) x hx
namespace EA
theorem DX(a:ae)(h:kh a):Cp 30 [a.pv,(⟨false,[],[]⟩:ae).pv] (ba a.val).pv:=by
 have hf:=rM.Add a ⟨false,[],[]⟩ h ⟨by simp,by simp⟩
 rwa[nR (a:=⟨false,[],[]⟩) rfl,Rat.add_zero] at hf
theorem DY:∀(n:Nat) (q:List Rat),q.length=n→n<4611686018427387904→Fl 274877906944 q→fG.aM (q.map ba) (ah ((aL q).map ba)):=by
 intro n
 induction n with
 |zero =>
  intro q hq _ _
  have:q=[]:=List.eq_nil_of_length_eq_zero hq
  subst this
  exact fG.BI [] (by simp)
 |succ n ih =>
  intro q hq hb hf
  obtain⟨v,hv⟩:∃v,q[n]? = some v:=⟨_,List.getElem?_eq_getElem (by omega)⟩
  have hs:=wZ hv hq
  have hm:(q.map ba)[n]? = some (ba v):=by rw[List.getElem?_map,hv];rfl
  have wR:=hf v (List.mem_of_getElem? hv)
  have sg:=rM.Sign (ba v) (iq wR)
  rw[cu] at sg
  have hl:(q.map ba).length=n+1:=by rw[List.length_map];exact hq
  by_cases h0:v=0
  ·refine fG.tY (q.map ba) n (ba v) _ n (by omega) (by unfold ar;omega) (by omega) (by omega) hm sg (dR.2 h0) (by omega) (by omega) ?_
   have:=ih (q.take n) (by rw[List.length_take];omega) (by omega) (fun x hx=>hf x (List.mem_of_mem_take hx))
   rw[List.map_take] at this
   rw[hs,h0,mq]
   rw[←hs.symm,←h0,←hs] at *
   exact this
  ·rw[hs,qa h0,←hs]
   exact fG.sf (q.map ba) n (ba v) _ (by omega) (by unfold ar;omega) (by omega) (by omega) hm sg (fun e=>h0 (dR.1 e))
theorem Trim(l:List ae)(hl:l.length≤1099511627776)(hf:gO 274877906944 l):Cp 12 [ah l] (ah ((aL (aS l)).map ba)):=by
 have loop:∀(j t:Nat) (site:List ae),l.length-t=j→t≤l.length→site=(l.take t).map (fun a=>ba a.val)→fG.ag site l t (ah ((aL (aS l)).map ba)):=by
  intro j
  induction j with
  |zero =>
   intro t site hj ht hs
   have pG:t=l.length:=by omega
   subst pG
   refine fG.cW site l _ (Nat.le_refl _) ?_
   rw[List.take_of_length_le (Nat.le_refl _)] at hs
   have:=DY (aS l).length (aS l) rfl (by unfold aS;rw[List.length_map];omega) (mr hf (by omega))
   have e:site=(aS l).map ba:=by rw[hs];unfold aS;rw[List.map_map];rfl
   rw[e];exact this
  |succ j ih =>
   intro t site hj ht hs
   obtain⟨v,hv⟩:∃v,l[t]? = some v:=⟨_,List.getElem?_eq_getElem (by omega)⟩
   have ha:=DX v (hf v (List.mem_of_getElem? hv))
   have Ki:site.length=t:=by rw[hs,List.length_map,List.length_take];omega
   refine fG.l10 site l t v _ (by omega) hv ha (by simp;omega) (by omega) (ih (t+1) _ (by omega) (by omega) ?_)
   rw[hs,List.take_add_one,hv];simp
 exact fG.e0 l (loop _ 0 [] rfl (by omega) rfl)
theorem Ad:∀(j:Nat) (p:List ae) (t:Nat),p.length-t=j→t≤p.length→p.length≤65→gO 274877906944 p→(p.take t).all ae.valid=true →
  (p.all ae.valid=false→b8.ag p t (.iface 55 (vI 2)))∧(p.all ae.valid=true→aU (aS p)=true→b8.ag p t (.iface 55 (vI 8)))∧(p.all ae.valid=true→aU (aS p)=false→b8.ag p t .bD):=by
 intro j
 induction j with
 |zero =>
  intro p t hj ht hl hf hv
  have pG:t=p.length:=by omega
  subst pG
  rw[List.take_of_length_le (Nat.le_refl _)] at hv
  refine⟨fun h => ?_,fun _ hz => ?_,fun _ hz => ?_⟩
  ·rw[hv] at h;cases h
  ·obtain⟨v,h0,h1,h2⟩:=uq hz
   have sg:=rM.Sign v (hf v (List.mem_of_getElem? h1))
   exact b8.mD p _ (p.length-1) v _ (Nat.le_refl _) h0 (by unfold ar;omega) (by omega) h1 sg (dR.2 h2)
  ·by_cases h0:p.length=0
   ·exact b8.Ex p _ (Nat.le_refl _) (by omega)
   ·obtain⟨v,h1,h2⟩:=rO hz h0
    have sg:=rM.Sign v (hf v (List.mem_of_getElem? h1))
    exact b8.zE p _ (p.length-1) v _ (Nat.le_refl _) (by omega) (by unfold ar;omega) (by omega) h1 sg (fun e=>h2 (dR.1 e))
 |succ j ih =>
  intro p t hj ht hl hf hv
  obtain⟨v,h1⟩:∃v,p[t]? = some v:=⟨_,List.getElem?_eq_getElem (by omega)⟩
  have FF:=rM.Valid v (hf v (List.mem_of_getElem? h1))
  cases hc:v.valid with
  |false =>
   have sP:p.all ae.valid=false:=by
    rw[List.all_eq_false]
    exact⟨v,List.mem_of_getElem? h1,by rw[hc];simp⟩
   refine⟨fun _=>b8.l10 p t v _ (by omega) h1 FF hc,fun h => ?_,fun h => ?_⟩
   ·rw[sP] at h;cases h
   ·rw[sP] at h;cases h
  |true =>
   obtain⟨g1,g2,g3⟩:=ih p (t+1) (by omega) (by omega) hl hf (by rw[List.take_add_one,h1];simp[hv,hc])
   exact⟨fun h=>b8.cW p t v _ (by omega) h1 FF hc (by omega) (g1 h),fun h h'=>b8.cW p t v _ (by omega) h1 FF hc (by omega) (g2 h h'),fun h h'=>b8.cW p t v _ (by omega) h1 FF hc (by omega) (g3 h h')⟩
theorem Check(p:List ae)(hf:gO 274877906944 p):Cp 9 [ah p] (cX (A8 (q9 p))):=by
 unfold q9
 by_cases hl:p.length≤65
 ·rw[if_neg (by omega)]
  obtain⟨g1,g2,g3⟩:=Ad _ p 0 rfl (by omega) hl hf (by simp)
  cases hv:p.all ae.valid with
  |false=>exact b8.e1 p hl (g1 hv)
  |true =>
   cases hz:aU (aS p) with
   |true=>exact b8.e1 p hl (g2 hv hz)
   |false=>exact b8.e1 p hl (g3 hv hz)
 ·rw[if_pos (by omega)]
  exact b8.e0 p (by omega)
theorem JJ(p:List ae)(x:ae)(hl:p.length≤65)(hp:gO 1073741824 p)(hx:x.num.length≤1073741824∧x.den.length≤1073741824):∀(n:Nat) (q:Rat),n≤p.length→q=evalL ((aS p).drop n) x.val →
  ly.ag p ((n:Int)-1) x (ba q) (.aY [(ba (evalL (aS p) x.val)).pv,.bD]):=by
 intro n
 induction n with
 |zero =>
  intro q _ hq
  rw[List.drop_zero] at hq
  rw[←hq]
  exact ly.cW p _ x _ (by omega)
 |succ n ih =>
  intro q hn hq
  obtain⟨v,hv⟩:∃v,p[n]? = some v:=⟨_,List.getElem?_eq_getElem (by omega)⟩
  have IB:=hp v (List.mem_of_getElem? hv)
  have b1:=fm IB.1 IB.2 (by omega)
  have b2:=fm hx.1 hx.2 (by omega)
  have b3:ht q≤65*2147483649+1:=by
   rw[hq]
   refine Nat.le_trans (w5 _ x.val 1073741824 (fun y hy=>mr hp (by omega) y (List.mem_of_mem_drop hy)) b2) ?_
   have:((aS p).drop (n+1)).length≤65:=by unfold aS;simp;omega
   omega
  have m:=rM.Mul (ba q) x (iq (by omega)) ⟨by omega,by omega⟩
  rw[cu] at m
  have b4:=ki q x.val
  have s:=rM.Add (ba (q*x.val)) v (iq (by omega)) ⟨by omega,by omega⟩
  rw[cu] at s
  have:=ih (q*x.val+v.val) (by omega) (by rw[hq,BQ hv];rfl)
  rw[show ((n+1:Nat):Int)-1=(n:Int) from by omega]
  exact ly.l10 p (n:Int) x _ _ n v _ (by omega) m rfl hv s (by unfold ar;omega) this
theorem Eval(p:List ae)(x:ae)(hc:q9 p=0)(hp:gO 1073741824 p)(hx:x.num.length≤1073741824∧x.den.length≤1073741824):Cp 40 [ah p,x.pv] (.aY [(ba (evalL (aS p) x.val)).pv,.bD]):=by
 have hk:=Check p (fun a ha=>⟨by have:=(hp a ha).1;omega,by have:=(hp a ha).2;omega⟩)
 rw[hc] at hk
 have hl:=A9 hc
 exact ly.e0 p x hk (by unfold ar;omega) (JJ p x hl hp hx p.length 0 (Nat.le_refl _) (by rw[List.drop_of_length_le (by unfold aS;simp)];rfl))
theorem derive(p:List ae)(hl:p.length≤65)(hp:gO 137438953472 p):Cp 36 [ah p] (ah ((cm (aS p)).map ba)):=by
 have loop:∀(j i:Nat) (site:List ae),p.length-i=j→1≤i→site=(nz 1 (((aS p).take i).drop 1)).map ba→iZ.ag p site i (ah ((cm (aS p)).map ba)):=by
  intro j
  induction j with
  |zero =>
   intro i site hj h1 hs
   rw[List.take_of_length_le (by unfold aS;rw[List.length_map];omega)] at hs
   have jl:Fl 274877906944 (nz 1 ((aS p).drop 1)):=Ba (k:=137438953472) (by omega) _ 1 (by unfold aS;simp;omega) (fun y hy=>mr hp (by omega) y (List.mem_of_mem_drop hy))
   have ht:=Trim site (by rw[hs,List.length_map,qc];unfold aS;simp;omega) (by rw[hs];exact A7 jl)
   rw[hs,jd] at ht
   rw[hs]
   exact iZ.cW p _ i _ (by omega) ht
  |succ j ih =>
   intro i site hj h1 hs
   obtain⟨v,hv⟩:∃v,p[i]? = some v:=⟨_,List.getElem?_eq_getElem (by omega)⟩
   have IB:=hp v (List.mem_of_getElem? hv)
   have ho:=rM.Of (i:Int) (by unfold ar;omega)
   have b1:ht ((i:Int):Rat)≤2:=by
    rw[DP]
    have:wl (i:Int)≤2:=uh (by omega)
    omega
   have m:=rM.Mul (ba ((i:Int):Rat)) v (iq (by omega)) ⟨by omega,by omega⟩
   rw[cu] at m
   have Ki:site.length=i-1:=by rw[hs,List.length_map,qc];unfold aS;simp;omega
   refine iZ.l10 p site i _ v _ (by omega) ho hv m (by simp;omega) (by omega) (ih (i+1) _ (by omega) (by omega) ?_)
   rw[hs,BS hv h1]
   simp
 exact iZ.e0 p (loop _ 1 [] rfl (by omega) (by rw[show (((aS p).take 1).drop 1)=[] from by simp];rfl))
end EA
namespace Me
theorem DX(a:ae)(h:kh a):Cp 31 [a.pv,(⟨false,[],[]⟩:ae).pv] (ba a.val).pv:=by
 have hf:=DS.Add a ⟨false,[],[]⟩ h ⟨by simp,by simp⟩
 rwa[nR (a:=⟨false,[],[]⟩) rfl,Rat.add_zero] at hf
theorem DY:∀(n:Nat) (q:List Rat),q.length=n→n<4611686018427387904→Fl 274877906944 q→bC.aM (q.map ba) (ah ((aL q).map ba)):=by
 intro n
 induction n with
 |zero =>
  intro q hq _ _
  have:q=[]:=List.eq_nil_of_length_eq_zero hq
  subst this
  exact bC.BI [] (by simp)
 |succ n ih =>
  intro q hq hb hf
  obtain⟨v,hv⟩:∃v,q[n]? = some v:=⟨_,List.getElem?_eq_getElem (by omega)⟩
  have hs:=wZ hv hq
  have hm:(q.map ba)[n]? = some (ba v):=by rw[List.getElem?_map,hv];rfl
  have wR:=hf v (List.mem_of_getElem? hv)
  have sg:=DS.Sign (ba v) (iq wR)
  rw[cu] at sg
  have hl:(q.map ba).length=n+1:=by rw[List.length_map];exact hq
  by_cases h0:v=0
  ·refine bC.tY (q.map ba) n (ba v) _ n (by omega) (by unfold ar;omega) (by omega) (by omega) hm sg (dR.2 h0) (by omega) (by omega) ?_
   have:=ih (q.take n) (by rw[List.length_take];omega) (by omega) (fun x hx=>hf x (List.mem_of_mem_take hx))
   rw[List.map_take] at this
   rw[hs,h0,mq]
   rw[←hs.symm,←h0,←hs] at *
   exact this
  ·rw[hs,qa h0,←hs]
   exact bC.sf (q.map ba) n (ba v) _ (by omega) (by unfold ar;omega) (by omega) (by omega) hm sg (fun e=>h0 (dR.1 e))
theorem Trim(l:List ae)(hl:l.length≤1099511627776)(hf:gO 274877906944 l):Cp 13 [ah l] (ah ((aL (aS l)).map ba)):=by
 have loop:∀(j t:Nat) (site:List ae),l.length-t=j→t≤l.length→site=(l.take t).map (fun a=>ba a.val)→bC.ag site l t (ah ((aL (aS l)).map ba)):=by
  intro j
  induction j with
  |zero =>
   intro t site hj ht hs
   have pG:t=l.length:=by omega
   subst pG
   refine bC.cW site l _ (Nat.le_refl _) ?_
   rw[List.take_of_length_le (Nat.le_refl _)] at hs
   have:=DY (aS l).length (aS l) rfl (by unfold aS;rw[List.length_map];omega) (mr hf (by omega))
   have e:site=(aS l).map ba:=by rw[hs];unfold aS;rw[List.map_map];rfl
   rw[e];exact this
  |succ j ih =>
   intro t site hj ht hs
   obtain⟨v,hv⟩:∃v,l[t]? = some v:=⟨_,List.getElem?_eq_getElem (by omega)⟩
   have ha:=DX v (hf v (List.mem_of_getElem? hv))
   have Ki:site.length=t:=by rw[hs,List.length_map,List.length_take];omega
   refine bC.l10 site l t v _ (by omega) hv ha (by simp;omega) (by omega) (ih (t+1) _ (by omega) (by omega) ?_)
   rw[hs,List.take_add_one,hv];simp
 exact bC.e0 l (loop _ 0 [] rfl (by omega) rfl)
theorem Ad:∀(j:Nat) (p:List ae) (t:Nat),p.length-t=j→t≤p.length→p.length≤65→gO 274877906944 p→(p.take t).all ae.valid=true →
  (p.all ae.valid=false→aN.ag p t (vI 2))∧(p.all ae.valid=true→aU (aS p)=true→aN.ag p t (vI 8))∧(p.all ae.valid=true→aU (aS p)=false→aN.ag p t (vI 0)):=by
 intro j
 induction j with
 |zero =>
  intro p t hj ht hl hf hv
  have pG:t=p.length:=by omega
  subst pG
  rw[List.take_of_length_le (Nat.le_refl _)] at hv
  refine⟨fun h => ?_,fun _ hz => ?_,fun _ hz => ?_⟩
  ·rw[hv] at h;cases h
  ·obtain⟨v,h0,h1,h2⟩:=uq hz
   have sg:=DS.Sign v (hf v (List.mem_of_getElem? h1))
   exact aN.mD p _ (p.length-1) v _ (Nat.le_refl _) h0 (by unfold ar;omega) (by omega) h1 sg (dR.2 h2)
  ·by_cases h0:p.length=0
   ·exact aN.Ex p _ (Nat.le_refl _) (by omega)
   ·obtain⟨v,h1,h2⟩:=rO hz h0
    have sg:=DS.Sign v (hf v (List.mem_of_getElem? h1))
    exact aN.zE p _ (p.length-1) v _ (Nat.le_refl _) (by omega) (by unfold ar;omega) (by omega) h1 sg (fun e=>h2 (dR.1 e))
 |succ j ih =>
  intro p t hj ht hl hf hv
  obtain⟨v,h1⟩:∃v,p[t]? = some v:=⟨_,List.getElem?_eq_getElem (by omega)⟩
  have FF:=DS.Valid v (hf v (List.mem_of_getElem? h1))
  cases hc:v.valid with
  |false =>
   have sP:p.all ae.valid=false:=by
    rw[List.all_eq_false]
    exact⟨v,List.mem_of_getElem? h1,by rw[hc];simp⟩
   refine⟨fun _=>aN.l10 p t v _ (by omega) h1 FF hc,fun h => ?_,fun h => ?_⟩
   ·rw[sP] at h;cases h
   ·rw[sP] at h;cases h
  |true =>
   obtain⟨g1,g2,g3⟩:=ih p (t+1) (by omega) (by omega) hl hf (by rw[List.take_add_one,h1];simp[hv,hc])
   exact⟨fun h=>aN.cW p t v _ (by omega) h1 FF hc (by omega) (g1 h),fun h h'=>aN.cW p t v _ (by omega) h1 FF hc (by omega) (g2 h h'),fun h h'=>aN.cW p t v _ (by omega) h1 FF hc (by omega) (g3 h h')⟩
theorem Check(p:List ae)(hf:gO 274877906944 p):Cp 10 [ah p] (vI (q9 p)):=by
 unfold q9
 by_cases hl:p.length≤65
 ·rw[if_neg (by omega)]
  obtain⟨g1,g2,g3⟩:=Ad _ p 0 rfl (by omega) hl hf (by simp)
  cases hv:p.all ae.valid with
  |false=>exact aN.e1 p hl (g1 hv)
  |true =>
   cases hz:aU (aS p) with
   |true=>exact aN.e1 p hl (g2 hv hz)
   |false=>exact aN.e1 p hl (g3 hv hz)
 ·rw[if_pos (by omega)]
  exact aN.e0 p (by omega)
end Me
theorem drop_cons{α:Type}{l:List α}{t:Nat}{v:α}(h:l[t]? = some v):l.drop t=v::l.drop (t+1):=by
 obtain⟨h1,h2⟩:=List.getElem?_eq_some_iff.1 h
 rw[List.drop_eq_getElem_cons h1,h2]
theorem DZ{q:Rat}(h:ht q≤68719476736):kh (ba q):=iq (by omega)
namespace QF
theorem Add(p q:Rat)(hp:ht p≤68719476736)(hq:ht q≤68719476736):Cp 30 [(ba p).pv,(ba q).pv] (ba (p+q)).pv:=by
 have h:=rM.Add (ba p) (ba q) ⟨by have:=(dw hp).1;omega,by have:=(dw hp).2;omega⟩ ⟨by have:=(dw hq).1;omega,by have:=(dw hq).2;omega⟩
 rwa[cu,cu] at h
theorem Sub(p q:Rat)(hp:ht p≤68719476736)(hq:ht q≤68719476736):Cp 42 [(ba p).pv,(ba q).pv] (ba (p-q)).pv:=by
 have h:=rM.Sub (ba p) (ba q) ⟨by have:=(dw hp).1;omega,by have:=(dw hp).2;omega⟩ ⟨by have:=(dw hq).1;omega,by have:=(dw hq).2;omega⟩
 rwa[cu,cu] at h
theorem Mul(p q:Rat)(hp:ht p≤68719476736)(hq:ht q≤68719476736):Cp 71 [(ba p).pv,(ba q).pv] (ba (p*q)).pv:=by
 have h:=rM.Mul (ba p) (ba q) ⟨by have:=(dw hp).1;omega,by have:=(dw hp).2;omega⟩ ⟨by have:=(dw hq).1;omega,by have:=(dw hq).2;omega⟩
 rwa[cu,cu] at h
theorem Div(p q:Rat)(hp:ht p≤68719476736)(hq:ht q≤68719476736)(h0:q≠0):Cp 41 [(ba p).pv,(ba q).pv] (.aY [(ba (p/q)).pv,.bD]):=by
 have h:=rM.Div (ba p) (ba q) (DZ hp) (DZ hq) (by rw[cu];exact h0)
 rwa[cu,cu] at h
theorem Sign(p:Rat)(hp:ht p≤68719476736):Cp 20 [(ba p).pv] (vI (oZ p 0)):=by
 have h:=rM.Sign (ba p) (DZ hp)
 rwa[cu] at h
theorem Neg(p:Rat)(hp:ht p≤68719476736):Cp 45 [(ba p).pv] (ba (-p)).pv:=by
 have h:=rM.Neg (ba p) (DZ hp)
 rwa[cu] at h
theorem DX(p:Rat)(hp:ht p≤68719476736):Cp 30 [(ba p).pv,(⟨false,[],[]⟩:ae).pv] (ba p).pv:=by
 have h:=Add p 0 hp (by decide)
 rwa[Rat.add_zero] at h
end QF
namespace QR
theorem Sign(p:Rat)(hp:ht p≤68719476736):Cp 24 [(ba p).pv] (vI (oZ p 0)):=by
 have h:=DS.Sign (ba p) (DZ hp)
 rwa[cu] at h
end QR
def Gr(a b:ae):Bool:=decide (a.neg=b.neg)&&(decide (a.num=b.num)&&decide (a.den=b.den))
theorem w6{a b:ae} : Gr a b=true↔a=b:=by
 obtain⟨n,m,d⟩:=a
 obtain⟨n',m',d'⟩:=b
 unfold Gr
 simp only[Bool.and_eq_true,decide_eq_true_eq,ae.mk.injEq]
theorem D0(a:ae):Gr a a=true:=w6.2 rfl
def uu:List ae→List ae→Bool
 |[],[]=>true
 |a::r,b::s=>Gr a b&&uu r s
 |_,_=>false
theorem qd:∀{p q:List ae},uu p q=true↔p=q
 |[],[]=>by simp[uu]
 |a::r,b::s=>by
  show(Gr a b&&uu r s)=true↔_
  rw[Bool.and_eq_true,w6,qd,List.cons.injEq]
 |[],b::s=>by simp[uu]
 |a::r,[]=>by simp[uu]
theorem BT(p:List ae):uu p p=true:=qd.2 rfl
theorem Bb{p q:List ae}(h:p≠q):uu p q=false:=by
 cases hb:uu p q with
 |true=>exact absurd (qd.1 hb) h
 |false=>rfl
namespace IC
theorem Words(a b:Sym.Words)(hl:a.length<9223372036854775807):Cp 93 [aa a,aa b] (vB (decide (a=b))):=by
 by_cases h:a.length=b.length
 ·have loop:∀(j t:Nat),a.length-t=j→t≤a.length→a.take t=b.take t→b9.ag a b t (vB (decide (a=b))):=by
   intro j
   induction j with
   |zero =>
    intro t hj ht he
    rw[List.take_of_length_le (by omega),List.take_of_length_le (by omega)] at he
    rw[decide_eq_true he]
    exact b9.mD a b t (by omega)
   |succ j ih =>
    intro t hj ht he
    obtain⟨v,hv⟩:∃v,a[t]? = some v:=⟨_,List.getElem?_eq_getElem (by omega)⟩
    obtain⟨w,hw⟩:∃w,b[t]? = some w:=⟨_,List.getElem?_eq_getElem (by omega)⟩
    by_cases h0:v.toNat=w.toNat
    ·exact b9.cW a b t v w (by omega) hv hw h0 (by omega) (ih (t+1) (by omega) (by omega) (by rw[List.take_add_one,List.take_add_one,he,hv,hw,HN h0]))
    ·have fP:a≠b:=by
      intro e;subst e
      rw[hv] at hw;injection hw with hw
      exact h0 (by rw[hw])
     rw[decide_eq_false fP]
     exact b9.l10 a b t v w (by omega) hv hw h0
  exact b9.e1 a b h (loop _ 0 rfl (by omega) rfl)
 ·rw[decide_eq_false (fun e=>h (by rw[e]))]
  exact b9.e0 a b h
theorem Rat(a b:ae)(h1:a.num.length<9223372036854775807)(h2:a.den.length<9223372036854775807):Cp 64 [a.pv,b.pv] (vB (Gr a b)):=by
 unfold Gr
 by_cases hn:a.neg=b.neg
 ·rw[decide_eq_true hn,Bool.true_and]
  have w1:=Words a.num b.num h1
  have w2:=Words a.den b.den h2
  cases hw:decide (a.num=b.num) with
  |true=>rw[Bool.true_and];rw[hw] at w1;exact fH.e0 a b _ _ hn w1 rfl w2
  |false=>rw[Bool.false_and];rw[hw] at w1;exact fH.e1 a b _ hn w1 rfl
 ·rw[decide_eq_false hn,Bool.false_and]
  exact fH.e2 a b hn
theorem Mf(p q:List ae)(hl:p.length<9223372036854775807)(hf:∀a∈p,a.num.length<9223372036854775807∧a.den.length<9223372036854775807):Cp 29 [ah p,ah q] (vB (uu p q)):=by
 by_cases h:p.length=q.length
 ·have loop:∀(j t:Nat),p.length-t=j→t≤p.length→p.take t=q.take t→cq.ag p q t (vB (uu p q)):=by
   intro j
   induction j with
   |zero =>
    intro t hj ht he
    rw[List.take_of_length_le (by omega),List.take_of_length_le (by omega)] at he
    rw[qd.2 he]
    exact cq.mD p q t (by omega)
   |succ j ih =>
    intro t hj ht he
    obtain⟨v,hv⟩:∃v,p[t]? = some v:=⟨_,List.getElem?_eq_getElem (by omega)⟩
    obtain⟨w,hw⟩:∃w,q[t]? = some w:=⟨_,List.getElem?_eq_getElem (by omega)⟩
    have IB:=hf v (List.mem_of_getElem? hv)
    have hr:=Rat v w IB.1 IB.2
    cases h0:Gr v w with
    |true =>
     rw[h0] at hr
     exact cq.cW p q t v w _ (by omega) hv hw hr rfl (by omega) (ih (t+1) (by omega) (by omega) (by rw[List.take_add_one,List.take_add_one,he,hv,hw,w6.1 h0]))
    |false =>
     have fP:p≠q:=by
      intro e;subst e
      rw[hv] at hw;injection hw with hw
      rw[hw,D0] at h0;cases h0
     rw[Bb fP]
     rw[h0] at hr
     exact cq.l10 p q t v w _ (by omega) hv hw hr rfl
  exact cq.e1 p q h (loop _ 0 rfl (by omega) rfl)
 ·rw[Bb (fun e=>h (by rw[e]))]
  exact cq.e0 p q h
theorem Kj(e:Option Int):Cp 8 [cX e] (vI (e.getD 0)):=by
 cases e with
 |none=>exact iH.e0
 |some n=>exact iH.e1 n
end IC
theorem fp(a:Rat)(r:List Rat):aL (a::r)=bif (aL r).isEmpty&&decide (a=0) then [] else a::aL r:=rfl
theorem kS(a:Rat)(r:List Rat):(aL r=[]∧a=0∧aL (a::r)=[])∨aL (a::r)=a::aL r:=by
 rw[fp]
 cases h:(aL r).isEmpty&&decide (a=0) with
 |false=>exact Or.inr rfl
 |true =>
  rw[Bool.and_eq_true] at h
  exact Or.inl ⟨List.isEmpty_iff.1 h.1,of_decide_eq_true h.2,rfl⟩
theorem vC:∀{q:List Rat} {y:Rat},y∈aL q→y∈q
 |[],y,h=>h
 |a::r,y,h=>by
  rcases kS a r with ⟨_,_,e⟩|e
  ·rw[e] at h;cases h
  ·rw[e] at h
   rcases List.mem_cons.1 h with h|h
   ·rw[h];exact List.mem_cons_self ..
   ·exact List.mem_cons_of_mem _ (vC h)
theorem eP:∀q:List Rat,(aL q).length≤q.length
 |[]=>by simp[aL]
 |a::r=>by
  rcases kS a r with ⟨_,_,e⟩|e
  ·rw[e];simp
  ·rw[e];simpa using eP r
theorem uv{k:Nat}{q:List Rat}(h:Fl k q):Fl k (aL q):=fun x hx=>h x (vC hx)
theorem ck:∀q:List Rat,aU (aL q)=false
 |[]=>rfl
 |a::r=>by
  have ih:=ck r
  rw[fp]
  cases h:aL r with
  |nil =>
   by_cases h0:a=0
   ·rw[decide_eq_true h0];rfl
   ·rw[decide_eq_false h0]
    unfold aU
    exact decide_eq_false h0
  |cons b s =>
   rw[h] at ih
   unfold aU at ih ⊢
   rw[show (bif (b::s).isEmpty&&decide (a=0) then [] else a::b::s)=a::b::s from rfl]
   rw[List.getLast?_cons_cons]
   exact ih
theorem lC:∀{q:List Rat},aU q=false→aL q=q
 |[],_=>rfl
 |[a],h=>by
  unfold aU at h
  have h:¬a=0:=of_decide_eq_false h
  rw[fp,decide_eq_false h];rfl
 |a::b::s,h=>by
  unfold aU at h
  rw[List.getLast?_cons_cons] at h
  have:=lC (q:=b::s) h
  rw[fp,this];rfl
theorem qe{q:List Rat}(h:aU q=false)(hl:q.length≤65):q9 (q.map ba)=0:=by
 unfold q9
 rw[if_neg (by rw[List.length_map];omega),jd,h]
 rw[show (q.map ba).all ae.valid=true from by
  rw[List.all_eq_true]
  intro a ha
  obtain⟨x,_,rfl⟩:=List.mem_map.1 ha
  exact q6 x]
 rfl
theorem eg(x:Rat):∀q:List Rat,evalL (aL q) x=evalL q x
 |[]=>rfl
 |a::r=>by
  have ih:=eg x r
  rcases kS a r with ⟨h1,h2,e⟩|e
  ·rw[e,evalL,evalL,←ih,h1,h2,evalL];grind
  ·rw[e,evalL,evalL,ih]
theorem iQ(q:List Rat):aU (cm q)=false:=ck _
def coef(p:List Rat)(i:Nat):Rat:=p[i]?.getD 0
def eS:List Rat→List Rat→List Rat
 |[],q=>q
 |a::p,[]=>a::p
 |a::p,b::q=>(a+b)::eS p q
def fq(c:Rat)(q:List Rat):List Rat:=q.map (fun x=>c*x)
def mulL:List Rat→List Rat→List Rat
 |[],_=>[]
 |a::p,q=>eS (fq a q) (0::mulL p q)
def dL(s:Nat)(q:List Rat):List Rat:=List.replicate s 0++q
theorem kj(i:Nat):coef [] i=0:=rfl
theorem jR(a:Rat)(p:List Rat):coef (a::p) 0=a:=rfl
theorem cV(a:Rat)(p:List Rat)(i:Nat):coef (a::p) (i+1)=coef p i:=rfl
theorem jM{p:List Rat}{i:Nat}{v:Rat}(h:p[i]? = some v):coef p i=v:=by unfold coef;rw[h];rfl
theorem cv{p:List Rat}{i:Nat}(h:p.length≤i):coef p i=0:=by unfold coef;rw[List.getElem?_eq_none h];rfl
theorem je{p:List Rat}{i:Nat}(h:i<p.length):p[i]? = some (coef p i):=by unfold coef;rw[List.getElem?_eq_getElem h];rfl
theorem dZ:∀(p q:List Rat) (i:Nat),coef (eS p q) i=coef p i+coef q i
 |[],q,i=>by rw[eS,kj,Rat.zero_add]
 |a::p,[],i=>by rw[eS,kj,Rat.add_zero]
 |a::p,b::q,0=>rfl
 |a::p,b::q,i+1=>by rw[eS,cV,cV,cV,dZ p q i]
theorem eC(c:Rat)(q:List Rat)(i:Nat):coef (fq c q) i=c*coef q i:=by
 unfold coef fq
 rw[List.getElem?_map]
 cases q[i]? with
 |none=>show(0:Rat)=c*0;rw[Rat.mul_zero]
 |some v=>rfl
theorem gh(a:Rat)(p q:List Rat)(i:Nat):coef (mulL (a::p) q) i=a*coef q i+coef (0::mulL p q) i:=by rw[mulL,dZ,eC]
theorem gK(s:Nat)(q:List Rat)(i:Nat):coef (dL s q) i=if i<s then 0 else coef q (i-s):=by
 unfold coef dL
 split
 ·rename_i h
  rw[List.getElem?_append_left (by rw[List.length_replicate];exact h),List.getElem?_replicate,if_pos h];rfl
 ·rename_i h
  rw[List.getElem?_append_right (by rw[List.length_replicate];omega),List.length_replicate]
theorem uw:∀(p q:List Rat),(eS p q).length=max p.length q.length
 |[],q=>by rw[eS,List.length_nil,Nat.zero_max]
 |a::p,[]=>by rw[eS,List.length_nil,Nat.max_zero]
 |a::p,b::q=>by rw[eS,List.length_cons,List.length_cons,List.length_cons,uw p q];omega
theorem nS(c:Rat)(q:List Rat):(fq c q).length=q.length:=List.length_map ..
theorem fL:∀{p q:List Rat},(∀i,coef p i=coef q i)→aL p=aL q
 |[],[],_=>rfl
 |[],b::q,h=>by
  have h0:(0:Rat)=b:=h 0
  have:=fL (p:=[]) (q:=q) (fun i=>h (i+1))
  rw[fp,←this,←h0];rfl
 |a::p,[],h=>by
  have h0:a=(0:Rat):=h 0
  have:=fL (p:=p) (q:=[]) (fun i=>h (i+1))
  rw[fp,this,h0];rfl
 |a::p,b::q,h=>by
  have h0:a=b:=h 0
  rw[fp,fp,fL (p:=p) (q:=q) (fun i=>h (i+1)),h0]
theorem gC:∀(p:List Rat) (i:Nat),coef (aL p) i=coef p i
 |[],_=>rfl
 |a::r,i=>by
  rcases kS a r with ⟨h1,h2,e⟩|e
  ·rw[e]
   cases i with
   |zero=>exact h2.symm
   |succ i=>rw[cV,←gC r i,h1,kj,kj]
  ·rw[e]
   cases i with
   |zero=>rfl
   |succ i=>rw[cV,cV,gC r i]
theorem yn{p q:List Rat}(hp:aU p=false)(hq:aU q=false)(h:∀i,coef p i=coef q i):p=q:=by
 rw[←lC hp,←lC hq];exact fL h
theorem gD(x:Rat):∀(p q:List Rat),evalL (eS p q) x=evalL p x+evalL q x
 |[],q=>by rw[eS,evalL,Rat.zero_add]
 |a::p,[]=>by rw[eS,show evalL [] x=0 from rfl,Rat.add_zero]
 |a::p,b::q=>by rw[eS,evalL,evalL,evalL,gD x p q];grind
theorem gL(c x:Rat):∀(q:List Rat),evalL (fq c q) x=c*evalL q x
 |[]=>by show(0:Rat)=c*0;rw[Rat.mul_zero]
 |a::q=>by
  have:=gL c x q
  show evalL (fq c q) x*x+c*a=c*(evalL q x*x+a)
  rw[this];grind
theorem dM(x:Rat):∀(p q:List Rat),evalL (mulL p q) x=evalL p x*evalL q x
 |[],q=>by show(0:Rat)=0*_;rw[Rat.zero_mul]
 |a::p,q=>by
  rw[mulL,gD,gL,evalL,dM x p q,evalL];grind
theorem jN(x:Rat):∀(s:Nat) (q:List Rat),evalL (dL s q) x=x^s*evalL q x
 |0,q=>by show evalL q x=_;rw[Rat.pow_zero,Rat.one_mul]
 |s+1,q=>by
  have:=jN x s q
  show evalL (dL s q) x*x+0=_
  rw[this,Rat.pow_succ];grind
def yo(c:Rat):List Rat→List Rat
 |[]=>[]
 |[_]=>[]
 |_::b::r=>evalL (b::r) c::yo c (b::r)
theorem yp(c:Rat):∀p:List Rat,(yo c p).length=p.length-1
 |[]=>rfl
 |[_]=>rfl
 |_::b::r=>by rw[yo,List.length_cons,yp c (b::r)];simp
theorem vD(c x:Rat):∀p:List Rat,evalL p x=evalL p c+(x-c)*evalL (yo c p) x
 |[]=>by show(0:Rat)=0+(x-c)*0;grind
 |[a]=>by show 0*x+a=(0*c+a)+(x-c)*0;grind
 |a::b::r=>by
  have:=vD c x (b::r)
  rw[yo]
  show evalL (b::r) x*x+a=(evalL (b::r) c*c+a)+(x-c)*(evalL (yo c (b::r)) x*x+evalL (b::r) c)
  rw[this]
  grind
theorem vE(c:Rat):∀p:List Rat,evalL p c=0→(∀y∈yo c p,y=0)→∀y∈p,y=0
 |[],_,_=>fun y h=>by cases h
 |[a],h,_=>fun y hy=>by
  have h:0*c+a=0:=h
  rw[List.mem_singleton.1 hy];grind
 |a::b::r,h,hq=>fun y hy=>by
  rw[yo] at hq
  have h1:=hq _ (List.mem_cons_self ..)
  have ih:=vE c (b::r) h1 (fun z hz=>hq z (List.mem_cons_of_mem _ hz))
  rcases List.mem_cons.1 hy with e|hy
  ·rw[evalL,h1] at h
   rw[e];grind
  ·exact ih y hy
theorem vF:∀(n:Nat) (p:List Rat) (N:Nat),p.length≤n→(∀m:Nat,N≤m→evalL p ((m:Int):Rat)=0)→∀y∈p,y=0
 |0,p,N,hl,_=>fun y hy=>by
  have:p=[]:=List.eq_nil_of_length_eq_zero (by omega)
  rw[this] at hy;cases hy
 |n+1,p,N,hl,h=>by
  have h0:=h N (Nat.le_refl _)
  refine vE _ p h0 (vF n _ (N+1) (by rw[yp];omega) (fun m hm => ?_))
  have h1:=h m (by omega)
  rw[vD ((N:Int):Rat) _ p,h0,Rat.zero_add] at h1
  rcases Rat.mul_eq_zero.1 h1 with e|e
  ·have:((m:Int):Rat)=((N:Int):Rat):=by grind
   have:=Rat.intCast_inj.1 this
   omega
  ·exact e
theorem D1{p:List Rat}(h:∀y∈p,y=0)(i:Nat):coef p i=0:=by
 unfold coef
 cases hv:p[i]? with
 |none=>rfl
 |some v=>exact h v (List.mem_of_getElem? hv)
theorem jS{p q:List Rat}(h:∀x,evalL p x=evalL q x)(i:Nat):coef p i=coef q i:=by
 have hz:=vF _ (eS p (fq (-1) q)) 0 (Nat.le_refl _) (fun m _=>by rw[gD,gL,h];grind)
 have:=D1 hz i
 rw[dZ,eC] at this
 grind
theorem D2{p q:List Rat}(h:∀x,evalL p x=evalL q x):aL p=aL q:=fL (jS h)
theorem u0(p q:List Rat)(i:Nat):coef (mulL p q) i=coef (mulL q p) i:=jS (fun x=>by rw[dM,dM,Rat.mul_comm]) i
theorem u4{p:List Rat}{t:Nat}{v:Rat}(h:p[t]? = some v)(q:List Rat)(i:Nat):coef (mulL (p.take (t+1)) q) i=coef (mulL (p.take t) q) i+coef (dL t (fq v q)) i:=by
 have hl:=(List.getElem?_eq_some_iff.1 h).1
 have key:∀x,evalL (mulL (p.take (t+1)) q) x=evalL (eS (mulL (p.take t) q) (dL t (fq v q))) x:=by
  intro x
  rw[gD,dM,dM,jN,gL,List.take_add_one,h]
  have:∀(l:List Rat),evalL (l++[v]) x=evalL l x+x^l.length*v:=by
   intro l
   induction l with
   |nil=>show 0*x+v=0+x^0*v;rw[Rat.pow_zero];grind
   |cons a l ih =>
    rw[List.cons_append,evalL,evalL,ih,List.length_cons,Rat.pow_succ];grind
  show evalL (p.take t++[v]) x*_=_
  rw[this,List.length_take,Nat.min_eq_left (by omega)]
  grind
 rw[←dZ]
 exact jS key i
theorem nA{k m:Nat} : ∀(p q:List Rat) (i:Nat),(∀i,ht (coef p i)≤k)→(∀i,ht (coef q i)≤m)→ht (coef (mulL p q) i)≤p.length*(k+m+1)+1
 |[],q,i,_,_=>Nat.le_trans (Nat.le_of_eq im) (by omega)
 |a::p,q,i,hp,hq=>by
  have ih:=fun i=>nA (k:=k) (m:=m) p q i
  have h1:=ki a (coef q i)
  have h2:=hp 0
  rw[jR] at h2
  have h3:=hq i
  rw[gh,List.length_cons,Nat.add_mul]
  have h4:=uk (a*coef q i) (coef (0::mulL p q) i)
  have h5:ht (coef (0::mulL p q) i)≤p.length*(k+m+1)+1:=by
   cases i with
   |zero=>rw[jR,im];omega
   |succ i=>rw[cV];exact ih i (fun j=>hp (j+1)) hq
  omega
theorem kT{k:Nat}{p:List Rat}(h:Fl k p)(hk:1≤k)(i:Nat):ht (coef p i)≤k:=by
 unfold coef
 cases hv:p[i]? with
 |none=>exact Nat.le_trans (Nat.le_of_eq im) hk
 |some v=>exact h v (List.mem_of_getElem? hv)
theorem ft{k:Nat}{p:List Rat}(h:∀i,ht (coef p i)≤k):Fl k p:=by
 intro x hx
 obtain⟨i,hi⟩:=List.mem_iff_getElem?.1 hx
 have:=h i
 rwa[jM hi] at this
theorem FG{k m:Nat}{p q:List Rat}(hp:Fl k p)(hq:Fl m q)(hk:1≤k)(hm:1≤m):Fl (k+m+1) (eS p q) :=
 ft (fun i=>by
  rw[dZ]
  have h1:=uk (coef p i) (coef q i)
  have h2:=kT hp hk i
  have h3:=kT hq hm i
  omega)
theorem D3{k:Nat}{c:Rat}{q:List Rat}(hq:Fl k q):Fl (ht c+k) (fq c q):=by
 intro x hx
 obtain⟨y,hy,rfl⟩:=List.mem_map.1 hx
 have h1:=ki c y
 have h2:=hq y hy
 omega
theorem mu{k m:Nat}{q:List Rat}(h:Fl k q)(hk:k≤m):Fl m q:=fun x hx=>Nat.le_trans (h x hx) hk
def gP(m:Nat)(g:Nat→Rat):List Rat:=(List.range m).map g
theorem bR(m:Nat)(g:Nat→Rat):(gP m g).length=m:=by unfold gP;rw[List.length_map,List.length_range]
theorem fu{m i:Nat}(g:Nat→Rat)(h:i<m):(gP m g)[i]? = some (g i):=by
 unfold gP;rw[List.getElem?_map,List.getElem?_range h];rfl
theorem D4{m i:Nat}(g:Nat→Rat)(v:Rat)(h:i<m):(gP m g).set i v=gP m (fun j=>if j=i then v else g j):=by
 refine List.ext_getElem? fun j => ?_
 by_cases hj:j<m
 ·rw[fu _ hj]
  by_cases e:j=i
  ·subst e
   rw[List.getElem?_set_self (by rw[bR];exact h),if_pos rfl]
  ·rw[List.getElem?_set_ne (by omega),fu _ hj,if_neg e]
 ·rw[List.getElem?_eq_none (by rw[List.length_set,bR];omega),List.getElem?_eq_none (by rw[bR];omega)]
theorem ra(m:Nat):List.replicate m (⟨false,[],[]⟩:ae)=(gP m (fun _=>0)).map ba:=by
 refine List.ext_getElem? fun j => ?_
 rw[List.getElem?_map]
 by_cases hj:j<m
 ·rw[fu _ hj,List.getElem?_replicate,if_pos hj];rfl
 ·rw[List.getElem?_eq_none (by rw[List.length_replicate];omega),List.getElem?_eq_none (by rw[bR];omega)];rfl
theorem nT{m:Nat}{g:Nat→Rat}(h:∀i,m≤i→g i=0)(i:Nat):coef (gP m g) i=g i:=by
 by_cases hi:i<m
 ·exact jM (fu g hi)
 ·rw[cv (by rw[bR];omega),h i (by omega)]
theorem o3{m:Nat}{f g:Nat→Rat}(h:∀i,i<m→f i=g i):gP m f=gP m g:=by
 unfold gP
 exact List.map_congr_left (fun i hi=>h i (List.mem_range.1 hi))
abbrev pq(q:List Rat):PV:=ah (q.map ba)
theorem getM{q:List Rat}{n:Nat}{v:Rat}(h:q[n]? = some v):(q.map ba)[n]? = some (ba v):=by rw[List.getElem?_map,h];rfl
theorem bS(q:List Rat):(q.map ba).length=q.length:=List.length_map ..
theorem D5{k:Nat}{q:List Rat}(h:Fl k q)(hk:k≤68719476736):gO 274877906944 (q.map ba):=A7 (mu h (by omega))
def FH(p q:List ae):Int:=if q9 p=0 then q9 q else q9 p
theorem qf{m t:Nat}{f g:Nat→Rat}{v:Rat}(ht:t<m)(hv:f t=v)(ho:∀i,i≠t→f i=g i):((gP m g).map ba).set t (ba v)=(gP m f).map ba:=by
 rw[←List.map_set,D4 g v ht]
 congr 1
 refine o3 (fun i _ => ?_)
 split
 ·rename_i e;rw[e,hv]
 ·rename_i e;exact(ho i e).symm
theorem rP{a b n:Nat}{p q:List Rat}(hp:Fl a p)(hq:Fl b q)(ha:1≤a)(hb:1≤b)(hn:p.length≤n∨q.length≤n)(t i:Nat):ht (coef (mulL (p.take t) q) i)≤n*(a+b+1)+1:=by
 have Io:∀i,ht (coef (p.take t) i)≤a:=kT (fun x hx=>hp x (List.mem_of_mem_take hx)) ha
 rcases hn with h|h
 ·have h1:=nA (p.take t) q i Io (kT hq hb)
  have h2:(p.take t).length*(a+b+1)≤n*(a+b+1):=Nat.mul_le_mul_right _ (by rw[List.length_take];omega)
  omega
 ·rw[u0]
  have h1:=nA q (p.take t) i (kT hq hb) Io
  have h2:q.length*(b+a+1)≤n*(b+a+1):=Nat.mul_le_mul_right _ h
  rw[Nat.add_comm b a] at h1 h2
  omega
theorem Ae{a b n:Nat}{p q:List Rat}(hp:Fl a p)(hq:Fl b q)(ha:1≤a)(hb:1≤b)(hn:p.length≤n∨q.length≤n):Fl (n*(a+b+1)+1) (mulL p q):=by
 refine ft (fun i => ?_)
 have:=rP hp hq ha hb hn p.length i
 rwa[List.take_of_length_le (Nat.le_refl _)] at this
namespace EB
theorem Trim{k:Nat}(q:List Rat)(hl:q.length≤1000000)(hf:Fl k q)(hk:k≤68719476736):Cp 12 [pq q] (pq (aL q)):=by
 have:=EA.Trim (q.map ba) (by rw[bS];omega) (D5 hf hk)
 rwa[jd] at this
theorem rQ(p:List Rat)(t:Nat):Cp 75 [pq p,vI (t:Int)] (ba (coef p t)).pv:=by
 by_cases h:t<p.length
 ·exact iG.e0 _ _ t _ (by rw[bS];omega) rfl (getM (je h))
 ·rw[cv (by omega)]
  exact iG.e1 _ _ (by rw[bS];omega)
theorem plus{a b d:Nat}(p q:List Rat)(c:Rat)(Ng:p.length≤100000)(Nh:q.length≤100000)(hp:Fl a p)(hq:Fl b q)(hc:ht c≤d)(ha:1≤a)(hb:1≤b)(hk:a+b+d+1≤68719476736):Cp 43 [pq p,pq q,(ba c).pv] (pq (aL (eS p (fq c q)))):=by
 have Gs:∀i,ht (coef p i)≤a∧ht (coef q i)≤b:=fun i=>⟨kT hp ha i,kT hq hb i⟩
 have ET:max (p.map ba).length (q.map ba).length=max p.length q.length:=by rw[bS,bS]
 have loop:∀(j t:Nat),max p.length q.length-t=j→lA.ag (p.map ba) (q.map ba) t (ba c) ((gP (max p.length q.length) (fun i=>if i<t then coef p i+c*coef q i else 0)).map ba) (pq (aL (eS p (fq c q)))):=by
  intro j
  induction j with
  |zero =>
   intro t hj
   have e:aL (eS p (fq c q))=aL (gP (max p.length q.length) (fun i=>if i<t then coef p i+c*coef q i else 0)):=by
    refine fL (fun i => ?_)
    rw[dZ,eC]
    by_cases hi:i<max p.length q.length
    ·rw[jM (fu _ hi),if_pos (by omega)]
    ·rw[cv (p:=gP _ _) (by rw[bR];omega),cv (p:=p) (by omega),cv (p:=q) (by omega)];grind
   rw[e]
   refine lA.cW _ _ t _ _ _ (by omega) (by rw[ET,bS,bR]) (Trim (k:=a+b+d+1) _ (by rw[bR];omega) (ft (fun i => ?_)) hk)
   obtain⟨c1,c2⟩:=Gs i
   have h1:=ki c (coef q i)
   have h2:=uk (coef p i) (c*coef q i)
   have h0:=im
   by_cases hi:i<max p.length q.length
   ·rw[jM (fu _ hi),if_pos (by omega)];omega
   ·rw[cv (p:=gP _ _) (by rw[bR];omega),h0];omega
  |succ j ih =>
   intro t hj
   obtain⟨c1,c2⟩:=Gs t
   have h1:=ki c (coef q t)
   refine lA.l10 _ _ t _ _ _ _ _ _ (by omega) (rQ p t) (rQ q t) (QF.Mul c (coef q t) (by omega) (by omega)) (QF.Add (coef p t) (c*coef q t) (by omega) (by omega)) (by rw[bS,bR];omega) (by omega) ?_
   rw[qf (f:=fun i=>if i<t+1 then coef p i+c*coef q i else 0) (by omega) (if_pos (by omega)) (fun i hi=>by
    by_cases h:i<t
    ·rw[if_pos h,if_pos (by omega)]
    ·rw[if_neg h,if_neg (by omega)])]
   exact ih (t+1) (by omega)
 have:=loop _ 0 rfl
 refine lA.e0 _ _ _ (by omega) ?_
 rw[ET,ra]
 exact this
theorem times{a b:Nat}(n:Nat)(p q:List Rat)(Ng:p.length≤100000)(Nh:q.length≤100000)(hp:Fl a p)(hq:Fl b q)(ha:1≤a)(hb:1≤b)(hn:p.length≤n∨q.length≤n)(hk:(n+1)*(a+b+1)+1≤68719476736):Cp 44 [pq p,pq q] (pq (aL (mulL p q))):=by
 rw[Nat.add_mul] at hk
 by_cases h0:p.length=0
 ·rw[List.eq_nil_of_length_eq_zero h0]
  exact dJ.e0 _ _ rfl
 by_cases h1:q.length=0
 ·have e:aL (mulL p q)=aL []:=D2 (fun x=>by rw[dM,List.eq_nil_of_length_eq_zero h1];show _*(0:Rat)=0;rw[Rat.mul_zero])
  rw[e]
  exact dJ.e1 _ _ (by rw[bS];exact h0) (by rw[bS];exact h1)
 have hm:∀i,p.length+q.length-1≤i→∀t,coef (mulL (p.take t) q) i=0:=by
  intro i hi t
  have key:∀(p:List Rat) (i:Nat),p.length+q.length-1≤i→coef (mulL p q) i=0:=by
   intro p
   induction p with
   |nil=>intro i _;rfl
   |cons c p ih =>
    intro i hi
    rw[List.length_cons] at hi
    rw[gh,cv (p:=q) (by omega)]
    cases i with
    |zero=>rw[jR];grind
    |succ i =>
     rw[cV]
     cases p with
     |nil=>rw[mulL,kj];grind
     |cons d p=>rw[ih i (by omega)];grind
  exact key _ i (by rw[List.length_take];omega)
 have bG:=rP hp hq ha hb hn
 have outer:∀(j t:Nat),p.length-t=j→t≤p.length→dJ.ag (q.map ba) (p.length+q.length-1) (p.map ba) t ((gP (p.length+q.length-1) (coef (mulL (p.take t) q))).map ba) (pq (aL (mulL p q))):=by
  intro j
  induction j with
  |zero =>
   intro t hj ht
   have e:aL (mulL p q)=aL (gP (p.length+q.length-1) (coef (mulL (p.take t) q))):=by
    refine fL (fun i => ?_)
    rw[nT (fun i hi=>hm i hi t),List.take_of_length_le (by omega)]
   rw[e]
   refine dJ.cW _ _ _ t _ _ (by rw[bS];omega) (by rw[bS,bR]) (Trim (k:=n*(a+b+1)+1) _ (by rw[bR];omega) (ft (fun i => ?_)) (by omega))
   rw[nT (fun i hi=>hm i hi t)]
   exact bG t i
  |succ j ih =>
   intro t hj ht
   obtain⟨v,hv⟩:∃v,p[t]? = some v:=⟨_,List.getElem?_eq_getElem (by omega)⟩
   have OW:=hp v (List.mem_of_getElem? hv)
   refine dJ.l10 _ _ _ t _ (ba v) (by rw[bS];omega) (getM hv) ?_
   have inner:∀(k u:Nat),q.length-u=k→u≤q.length→dJ.aM (q.map ba) (p.length+q.length-1) t (p.map ba) t u (ba v) ((gP (p.length+q.length-1) (fun i=>coef (mulL (p.take t) q) i+if t≤i∧i<t+u then v*coef q (i-t) else 0)).map ba) (pq (aL (mulL p q))):=by
    intro k
    induction k with
    |zero =>
     intro u KJ hu
     refine dJ.sf _ _ t _ t u _ _ (by rw[bS];omega) (by omega) ?_
     have:=ih (t+1) (by omega) (by omega)
     rwa[o3 (f:=coef (mulL (p.take (t+1)) q)) (g:=fun i=>coef (mulL (p.take t) q) i+if t≤i∧i<t+u then v*coef q (i-t) else 0) (fun i hi=>by
      rw[u4 hv,gK,eC]
      congr 1
      by_cases h1:i<t
      ·rw[if_pos h1,if_neg (by omega)]
      ·rw[if_neg h1]
       by_cases h2:i<t+u
       ·rw[if_pos (by omega)]
       ·rw[if_neg (by omega),cv (p:=q) (by omega),Rat.mul_zero])] at this
    |succ k I1 =>
     intro u KJ hu
     obtain⟨w,hw⟩:∃w,q[u]? = some w:=⟨_,List.getElem?_eq_getElem (by omega)⟩
     have Pw:=hq w (List.mem_of_getElem? hw)
     have hg:t+u<p.length+q.length-1:=by omega
     have b1:=bG t (t+u)
     have b2:=ki v w
     refine dJ.tY _ _ t _ t u _ _ (ba w) (ba (coef (mulL (p.take t) q) (t+u))) _ _ (by rw[bS];omega) (getM hw) (by omega) hg ?_ (QF.Mul v w (by omega) (by omega)) (QF.Add (coef (mulL (p.take t) q) (t+u)) (v*w) (by omega) (by omega)) (by rw[bS,bR];omega) (by omega) ?_
     ·rw[getM (fu _ hg),if_neg (by omega),Rat.add_zero]
     ·rw[qf (f:=fun i=>coef (mulL (p.take t) q) i+if t≤i∧i<t+(u+1) then v*coef q (i-t) else 0) hg (by
       rw[if_pos (by omega),show t+u-t=u from by omega,jM hw]) (fun i hi=>by
       congr 1
       by_cases h:t≤i∧i<t+u
       ·rw[if_pos h,if_pos (by omega)]
       ·rw[if_neg h,if_neg (by omega)])]
      exact I1 (u+1) (by omega) (by omega)
   have:=inner _ 0 rfl (by omega)
   rwa[o3 (g:=coef (mulL (p.take t) q)) (fun i hi=>by rw[if_neg (by omega),Rat.add_zero])] at this
 have:=outer _ 0 rfl (by omega)
 refine dJ.e2 _ _ (p.length+q.length-1) (by rw[bS];exact h0) (by rw[bS];exact h1) (by rw[bS,bS];omega) (by rw[bS,bS];unfold ar;omega) (by rw[bS,bS];omega) (by omega) ?_
 rw[ra]
 exact this
theorem FI(p q:List ae)(hp:gO 274877906944 p)(hq:gO 274877906944 q):Cp 32 [qm (df ae.cells) [p,q]] (cX (A8 (FH p q))):=by
 have h1:=EA.Check p hp
 have h2:=EA.Check q hq
 refine fi.e0 [p,q] ?_
 unfold FH
 by_cases e:q9 p=0
 ·rw[if_pos e]
  rw[e] at h1
  refine fi.l10 _ 0 p (by simp) rfl h1 (by omega) ?_
  by_cases e2:q9 q=0
  ·rw[e2] at h2 ⊢
   exact fi.l10 _ 1 q (by simp) rfl h2 (by omega) (fi.mD _ 2 (by simp))
  ·rw[ur e2] at h2 ⊢
   exact fi.cW _ 1 q _ (by simp) rfl h2
 ·rw[if_neg e]
  rw[ur e] at h1 ⊢
  exact fi.cW _ 0 p _ (by simp) rfl h1
end EB
def dx(p:List Rat):Rat:=coef p (p.length-1)
theorem iL{p:List Rat}(hz:aU p=false)(h:p≠[]):dx p≠0:=by
 unfold aU at hz
 have hl:=List.length_pos_iff.2 h
 rw[List.getLast?_eq_getElem?,je (p:=p) (i:=p.length-1) (by omega)] at hz
 exact of_decide_eq_false hz
theorem nB{p:List Rat}{n:Nat}(h:∀i,n≤i→coef p i=0):(aL p).length≤n:=by
 refine Nat.le_of_not_lt fun cS => ?_
 have fP:aL p≠[]:=by intro e;rw[e] at cS;simp at cS
 have:=iL (ck p) fP
 unfold dx at this
 rw[gC,h _ (by omega)] at this
 exact this rfl
def stepC(rest q:List Rat):Rat:=dx rest/dx q
def jC(rest q:List Rat):List Rat:=aL (eS rest (dL (rest.length-q.length) (fq (-(stepC rest q)) q)))
def kr:Nat→List Rat→List Rat→List Rat→List Rat×List Rat
 |0,out,rest,_=>(out,rest)
 |n+1,out,rest,q=>bif Nat.blt rest.length q.length then (out,rest) else kr n (aL (eS out (dL (rest.length-q.length) [stepC rest q]))) (jC rest q) q
def ld(p q:List Rat):List Rat×List Rat:=kr (p.length+1) [] (aL p) q
def qg(p q:List Rat):List Rat:=(ld p q).2
def fW(p:List Rat):List Rat:=aL (fq (1/dx p) p)
def rb:Nat→List Rat→List Rat→List Rat
 |0,p,_=>p
 |n+1,p,q=>bif Nat.beq q.length 0 then p else rb n q (fW (qg p q))
def nC(p q:List Rat):List Rat:=fW (rb (q.length+1) p q)
def Gt(p:List Rat):List Rat:=fW (ld p (nC p (cm p))).1
theorem sH{a b:Nat} : Nat.blt a b=true↔a<b:=by rw[Nat.blt_eq]
theorem qh{a b:Nat} : Nat.blt a b=false↔b≤a:=by
 constructor
 ·intro h;exact Nat.le_of_not_lt fun e=>by rw[sH.2 e] at h;cases h
 ·intro h
  cases hb:Nat.blt a b with
  |true=>have:=sH.1 hb;omega
  |false=>rfl
theorem vG{rest q:List Rat}(hq:dx q≠0):stepC rest q*dx q=dx rest:=by
 unfold stepC
 rw[Rat.div_mul_cancel hq]
theorem lE{rest q:List Rat}(hq:dx q≠0)(kX:q.length≠0)(hl:q.length≤rest.length):(jC rest q).length<rest.length:=by
 have h:=nB (p:=eS rest (dL (rest.length-q.length) (fq (-(stepC rest q)) q))) (n:=rest.length-1) (fun i hi=>by
  rw[dZ,gK,eC,if_neg (by omega)]
  by_cases e:i=rest.length-1
  ·have h1:=vG (rest:=rest) hq
   unfold dx at h1
   rw[e,show rest.length-1-(rest.length-q.length)=q.length-1 from by omega]
   grind
  ·rw[cv (p:=rest) (by omega),cv (p:=q) (by omega)];grind)
 unfold jC
 omega
theorem Af(rest q:List Rat)(x:Rat):evalL (jC rest q) x=evalL rest x-x^(rest.length-q.length)*stepC rest q*evalL q x:=by
 unfold jC
 rw[eg,gD,jN,gL];grind
theorem vH{q:List Rat}(hq:dx q≠0)(kX:q.length≠0):∀(n:Nat) (out rest:List Rat),rest.length<n →
  (kr n out rest q).2.length<q.length∧∀x,evalL (kr n out rest q).1 x*evalL q x+evalL (kr n out rest q).2 x=evalL out x*evalL q x+evalL rest x
 |0,out,rest,h=>by omega
 |n+1,out,rest,h=>by
  rw[kr]
  cases hb:Nat.blt rest.length q.length with
  |true=>exact⟨sH.1 hb,fun x=>rfl⟩
  |false =>
   have hl:=qh.1 hb
   have h1:=lE hq kX hl
   rw[cond_false]
   obtain⟨g1,g2⟩:=vH hq kX n (aL (eS out (dL (rest.length-q.length) [stepC rest q]))) (jC rest q) (by omega)
   refine⟨g1,fun x => ?_⟩
   rw[g2 x,Af,eg,gD,jN]
   have:evalL [stepC rest q] x=stepC rest q:=by show 0*x+stepC rest q=stepC rest q;grind
   rw[this];grind
theorem vJ{q:List Rat} : ∀(n:Nat) (out rest:List Rat),aU out=false→aU rest=false→aU (kr n out rest q).1=false∧aU (kr n out rest q).2=false
 |0,out,rest,h1,h2=>⟨h1,h2⟩
 |n+1,out,rest,h1,h2=>by
  rw[kr]
  cases Nat.blt rest.length q.length with
  |true=>exact⟨h1,h2⟩
  |false=>exact vJ n _ _ (ck _) (ck _)
theorem vK{q:List Rat}(p:List Rat)(hz:aU q=false)(kX:q≠[]):(ld p q).2.length<q.length∧∀x,evalL (ld p q).1 x*evalL q x+evalL (ld p q).2 x=evalL p x:=by
 have hl:=List.length_pos_iff.2 kX
 obtain⟨g1,g2⟩:=vH (iL hz kX) (by omega) (p.length+1) [] (aL p) (by have:=eP p;omega)
 refine⟨g1,fun x => ?_⟩
 show evalL (kr _ _ _ _).1 x*_+evalL (kr _ _ _ _).2 x=_
 rw[g2 x,eg]
 show(0:Rat)*_+_=_
 grind
theorem vL(p q:List Rat):aU (ld p q).1=false∧aU (ld p q).2=false:=vJ _ _ _ rfl (ck _)
theorem qi:∀(p q:List Rat),p≠[]→q≠[]→coef (mulL p q) (p.length+q.length-2)=dx p*dx q
 |[],q,h,_=>absurd rfl h
 |[a],q,_,hq=>by
  have hl:=List.length_pos_iff.2 hq
  rw[gh]
  show a*coef q ([a].length+q.length-2)+coef [0] _=a*coef q (q.length-1)
  rw[show [a].length+q.length-2=q.length-1 from by simp;omega]
  have:coef [0] (q.length-1)=0:=by
   cases q.length-1 with
   |zero=>rfl
   |succ n=>rfl
  rw[this,Rat.add_zero]
 |a::b::r,q,_,hq=>by
  have hl:=List.length_pos_iff.2 hq
  have ih:=qi (b::r) q (by simp) hq
  rw[gh,cv (p:=q) (by simp;omega)]
  rw[show (a::b::r).length+q.length-2=((b::r).length+q.length-2)+1 from by simp;omega,cV,ih]
  have:dx (a::b::r)=dx (b::r):=by
   unfold dx
   rw[show (a::b::r).length-1=((b::r).length-1)+1 from by simp,cV]
  rw[this];grind
theorem yq{p:List Rat}{i:Nat}(h:coef p i≠0):i<p.length:=by
 refine Nat.lt_of_not_le fun e=>h (cv e)
theorem ux{p:List Rat} : aU p=false→∀c,c≠0→aU (fq c p)=false:=by
 intro hz c hc
 by_cases h:p=[]
 ·subst h;rfl
 ·have:=iL hz h
  unfold dx at this
  unfold aU
  have hl:=List.length_pos_iff.2 h
  rw[List.getLast?_eq_getElem?,nS,je (by rw[nS];omega),eC]
  show decide (c*_=0)=false
  refine decide_eq_false (fun e => ?_)
  rcases Rat.mul_eq_zero.1 e with e|e
  ·exact hc e
  ·exact this e
theorem Ag{c:Rat}(h:c≠0):1/c≠0:=by
 intro e
 have:=Rat.div_mul_cancel (a:=1) h
 rw[e,Rat.zero_mul] at this
 exact absurd this (by decide)
theorem BU{p:List Rat}(hz:aU p=false)(h:p≠[]):fW p=fq (1/dx p) p:=by
 unfold fW
 exact lC (ux hz _ (Ag (iL hz h)))
theorem jf(p:List Rat):aU (fW p)=false:=ck _
theorem kl{p:List Rat}(hz:aU p=false):(fW p).length=p.length:=by
 by_cases h:p=[]
 ·subst h;rfl
 ·rw[BU hz h,nS]
theorem yr{p:List Rat}(x:Rat):evalL (fW p) x=1/dx p*evalL p x:=by
 unfold fW
 rw[eg,gL]
theorem BV{p:List Rat}(hz:aU p=false)(h:p≠[]):fW p≠[]:=by
 intro e
 have:=kl hz
 rw[e] at this
 exact h (List.eq_nil_of_length_eq_zero this.symm)
theorem mv(p q:List Rat):aU (qg p q)=false:=(vL p q).2
theorem nU:∀(n:Nat) (p q:List Rat),aU p=false→aU q=false→aU (rb n p q)=false
 |0,p,q,hp,_=>hp
 |n+1,p,q,hp,hq=>by
  rw[rb]
  cases Nat.beq q.length 0 with
  |true=>exact hp
  |false=>exact nU n _ _ hq (jf _)
theorem nV(p q:List Rat):aU (nC p q)=false:=jf _
theorem Bc:∀(n:Nat) (p q:List Rat),p≠[]∨(q≠[]∧0<n)→rb n p q≠[]
 |0,p,q,h=>by rcases h with h|⟨_,h⟩;exact h;omega
 |n+1,p,q,h=>by
  rw[rb]
  by_cases hq:q.length=0
  ·rw[beq_iff.2 hq,cond_true]
   rcases h with h|⟨h,_⟩
   ·exact h
   ·exact absurd (List.eq_nil_of_length_eq_zero hq) h
  ·rw[iP.2 hq,cond_false]
   exact Bc n q _ (Or.inl (fun e=>hq (by rw[e];rfl)))
theorem FJ{p:List Rat}(q:List Rat)(hp:aU p=false)(hq:aU q=false)(h:p≠[]):nC p q≠[]:=BV (nU _ _ _ hp hq) (Bc _ _ _ (Or.inl h))
def Ch(h:Nat)(p:List Rat):Prop:=∃D:Int,D≠0∧wl D≤h∧∀i,∃n:Int,coef p i*(D:Rat)=(n:Rat)∧wl n≤h
theorem qj{D:Int}(h:D≠0):(D:Rat)≠0:=fun e=>h (Rat.intCast_inj.1 (by rw[e];rfl))
theorem uy{a b c:Rat}(hc:c≠0)(h:a*c=b*c):a=b:=by
 have:(a-b)*c=0:=by grind
 rcases Rat.mul_eq_zero.1 this with e|e
 ·grind
 ·exact absurd e hc
theorem BW{x:Rat}{n D:Int}(hD:D≠0)(h:x*(D:Rat)=(n:Rat)):ht x≤max (wl n) (max (wl D) 1):=by
 have e:x=Rat.divInt n D:=by
  rw[Rat.divInt_eq_div]
  refine uy (qj hD) ?_
  rw[h,Rat.div_mul_cancel (qj hD)]
 rw[e];exact q7 n D
theorem Ch.mono{h k:Nat}{p:List Rat}(hp:Ch h p)(hk:h≤k):Ch k p:=by
 obtain⟨D,h1,h2,h3⟩:=hp
 refine⟨D,h1,by omega,fun i => ?_⟩
 obtain⟨n,a,b⟩:=h3 i
 exact⟨n,a,by omega⟩
theorem Ch.ht{h:Nat}{p:List Rat}(hp:Ch h p)(i:Nat):ht (coef p i)≤max h 1:=by
 obtain⟨D,h1,h2,h3⟩:=hp
 obtain⟨n,a,b⟩:=h3 i
 have:=BW h1 a
 omega
theorem Ch.fl{h:Nat}{p:List Rat}(hp:Ch h p)(h1:1≤h):Fl h p:=ft (fun i=>by have:=hp.ht i;omega)
theorem Ch.congr{h:Nat}{p q:List Rat}(hp:Ch h p)(e:∀i,coef p i=coef q i):Ch h q:=by
 obtain⟨D,h1,h2,h3⟩:=hp
 refine⟨D,h1,h2,fun i => ?_⟩
 rw[←e i];exact h3 i
theorem Ch.trim{h:Nat}{p:List Rat}(hp:Ch h p):Ch h (aL p):=hp.congr (fun i=>(gC p i).symm)
theorem Ch.nil{h:Nat}(h1:1≤h):Ch h []:=⟨1,by decide,by rw[H2];exact h1,fun i=>⟨0,by rw[kj,Rat.zero_mul];rfl,Nat.zero_le _⟩⟩
theorem Ch.cons{h k:Nat}{a:Rat}{p:List Rat}(hp:Ch h p)(ha:Sym.ht a≤k):Ch (h+k) (a::p):=by
 obtain⟨D,h1,h2,h3⟩:=hp
 have hd:=eA a
 have hn:=dK a
 have Ce:(a.den:Int)≠0:=by have:=a.den_nz;omega
 have Mg:a*((a.den:Int):Rat)=(a.num:Rat):=by
  have:a=Rat.divInt a.num a.den:=(Rat.num_divInt_den a).symm
  conv=>lhs;lhs;rw[this]
  rw[Rat.divInt_eq_div,Rat.div_mul_cancel (qj Ce)]
 have hm:=cK D a.den
 refine⟨D*a.den,by intro e;rcases Int.mul_eq_zero.1 e with e|e;exact h1 e;exact Ce e,by omega,fun i => ?_⟩
 cases i with
 |zero =>
  refine⟨a.num*D,?_,by have:=cK a.num D;omega⟩
  rw[jR,Rat.intCast_mul,Rat.intCast_mul,←Mg];grind
 |succ i =>
  obtain⟨n,e1,e2⟩:=h3 i
  refine⟨n*a.den,?_,by have:=cK n a.den;omega⟩
  rw[cV,Rat.intCast_mul,Rat.intCast_mul,←e1];grind
theorem Ch.yu{k:Nat} : ∀{p:List Rat},Fl k p→Ch (p.length*k+1) p
 |[],_=>Ch.nil (by omega)
 |a::r,h=>by
  have:=(Ch.yu (fun x hx=>h x (List.mem_cons_of_mem _ hx))).cons (h a (List.mem_cons_self ..))
  rw[List.length_cons,Nat.add_mul,Nat.one_mul]
  exact this.mono (by omega)
theorem Ch.Ah{h:Nat}{p:List Rat}(hp:Ch h p)(ht:dx p≠0):Ch h (fq (1/dx p) p):=by
 obtain⟨D,h1,h2,h3⟩:=hp
 obtain⟨t,e1,e2⟩:=h3 (p.length-1)
 have e1:dx p*(D:Rat)=(t:Rat):=e1
 have OX:t≠0:=by
  intro e
  rw[e] at e1
  rcases Rat.mul_eq_zero.1 e1 with e|e
  ·exact ht e
  ·exact qj h1 e
 refine⟨t,OX,e2,fun i => ?_⟩
 obtain⟨n,g1,g2⟩:=h3 i
 refine⟨n,?_,g2⟩
 have:=Rat.div_mul_cancel (a:=1) ht
 rw[eC,←g1,←e1]
 grind
theorem Ch.uz{h:Nat}{p:List Rat}(hp:Ch h p)(h1:1≤h)(hz:aU p=false):Ch h (fW p):=by
 by_cases e:p=[]
 ·subst e;exact Ch.nil h1
 ·exact(hp.Ah (iL hz e)).trim
theorem Ch.step{h b:Nat}{rest q:List Rat}(hr:Ch h rest)(hq:Ch b q)(hz:dx q≠0):Ch (h+b+1) (jC rest q):=by
 refine Ch.trim ?_
 obtain⟨D,h1,h2,h3⟩:=hr
 obtain⟨E,g1,g2,g3⟩:=hq
 obtain⟨u,u1,u2⟩:=g3 (q.length-1)
 obtain⟨t,t1,t2⟩:=h3 (rest.length-1)
 have u1:dx q*(E:Rat)=(u:Rat):=u1
 have t1:dx rest*(D:Rat)=(t:Rat):=t1
 have GH:u≠0:=by
  intro e
  rw[e] at u1
  rcases Rat.mul_eq_zero.1 u1 with e|e
  ·exact hz e
  ·exact qj g1 e
 have hc:=vG (rest:=rest) hz
 have hm:=cK D u
 refine⟨D*u,by intro e;rcases Int.mul_eq_zero.1 e with e|e;exact h1 e;exact GH e,by omega,fun i => ?_⟩
 obtain⟨n,e1,e2⟩:=h3 i
 rw[dZ,gK,eC]
 by_cases hi:i<rest.length-q.length
 ·rw[if_pos hi]
  refine⟨n*u,?_,by have:=cK n u;omega⟩
  rw[Rat.intCast_mul,Rat.intCast_mul,←e1];grind
 ·rw[if_neg hi]
  obtain⟨m,f1,f2⟩:=g3 (i-(rest.length-q.length))
  refine⟨n*u + -(t*m),?_,by have:=cK n u;have:=cK t m;have:=gB (t*m);have:=ui (n*u) (-(t*m));omega⟩
  rw[Rat.intCast_mul,Rat.intCast_add,Rat.intCast_mul,Rat.intCast_neg,Rat.intCast_mul,←e1,←f1,←t1,←u1,←hc];grind
theorem vM{b:Nat}{q:List Rat}(hq:Ch b q)(hz:dx q≠0)(kX:q.length≠0):∀(n h:Nat) (out rest:List Rat),Ch h rest→Ch (h+(rest.length+1-q.length)*(b+1)) (kr n out rest q).2
 |0,h,out,rest,hr=>hr.mono (by omega)
 |n+1,h,out,rest,hr=>by
  rw[kr]
  cases hb:Nat.blt rest.length q.length with
  |true=>exact hr.mono (by omega)
  |false =>
   have hl:=qh.1 hb
   have h1:=lE hz kX hl
   have ih:=vM hq hz kX n (h+b+1) (aL (eS out (dL (rest.length-q.length) [stepC rest q]))) (jC rest q) (hr.step hq hz)
   refine ih.mono ?_
   have e:rest.length+1-q.length=(rest.length-q.length)+1:=by omega
   have h2:((jC rest q).length+1-q.length)*(b+1)≤(rest.length-q.length)*(b+1):=Nat.mul_le_mul_right _ (by omega)
   rw[e,Nat.add_mul,Nat.one_mul]
   omega
theorem yv{b M:Nat}{q:List Rat}(hq:Ch b q)(so:1≤b)(hz:dx q≠0)(kX:q.length≠0):∀(n h:Nat) (out rest:List Rat),1≤h→Ch h rest→h+(rest.length+1-q.length)*(b+1)≤M→(∀i,i+q.length≤rest.length→coef out i=0)→(∀i,ht (coef out i)≤M+b)→∀i,ht (coef (kr n out rest q).1 i)≤M+b
 |0,h,out,rest,_,_,_,_,ho=>ho
 |n+1,h,out,rest,h1,hr,hM,Cj,ho=>by
  rw[kr]
  cases hb:Nat.blt rest.length q.length with
  |true=>exact ho
  |false =>
   have hl:=qh.1 hb
   have hs:=lE hz kX hl
   have e:rest.length+1-q.length=(rest.length-q.length)+1:=by omega
   have h2:((jC rest q).length+1-q.length)*(b+1)≤(rest.length-q.length)*(b+1):=Nat.mul_le_mul_right _ (by omega)
   rw[e,Nat.add_mul,Nat.one_mul] at hM
   have cc:∀i,coef (aL (eS out (dL (rest.length-q.length) [stepC rest q]))) i=if i=rest.length-q.length then stepC rest q else coef out i:=by
    intro i
    rw[gC,dZ,gK]
    by_cases h3:i=rest.length-q.length
    ·rw[if_pos h3,if_neg (by omega),Cj i (by omega),h3,Nat.sub_self,jR,Rat.zero_add]
    ·rw[if_neg h3]
     split
     ·rw[Rat.add_zero]
     ·rw[cv (p:=[stepC rest q]) (by simp;omega),Rat.add_zero]
   refine yv hq so hz kX n (h+b+1) _ (jC rest q) (by omega) (hr.step hq hz) (by omega) (fun i hi => ?_) (fun i => ?_)
   ·rw[cc,if_neg (by omega)]
    exact Cj i (by omega)
   ·rw[cc]
    split
    ·unfold stepC
     have a1:=wX (dx rest) (dx q)
     have a2:=hr.ht (rest.length-1)
     have a3:=hq.ht (q.length-1)
     have a2:ht (dx rest)≤max h 1:=a2
     have a3:ht (dx q)≤max b 1:=a3
     omega
    ·exact ho i
theorem Ch.rest{h b:Nat}{p q:List Rat}(hp:Ch h p)(hq:Ch b q)(hz:aU q=false)(kX:q≠[]):Ch (h+(p.length+1-q.length)*(b+1)) (qg p q):=by
 have:=vM hq (iL hz kX) (by intro e;exact kX (List.eq_nil_of_length_eq_zero e)) (p.length+1) h [] (aL p) hp.trim
 refine Ch.mono this ?_
 have h1:=eP p
 have:((aL p).length+1-q.length)*(b+1)≤(p.length+1-q.length)*(b+1):=Nat.mul_le_mul_right _ (by omega)
 omega
theorem FK{h b:Nat}{p q:List Rat}(hp:Ch h p)(hq:Ch b q)(h1:1≤h)(so:1≤b)(hz:aU q=false)(kX:q≠[]):Fl (h+(p.length+1-q.length)*(b+1)+b) (ld p q).1:=by
 have hl:=eP p
 have h2:((aL p).length+1-q.length)*(b+1)≤(p.length+1-q.length)*(b+1):=Nat.mul_le_mul_right _ (by omega)
 exact ft (yv hq so (iL hz kX) (by intro e;exact kX (List.eq_nil_of_length_eq_zero e)) (p.length+1) h [] (aL p) h1 hp.trim (by omega) (fun i _=>rfl) (fun i=>Nat.le_trans (Nat.le_of_eq im) (by omega)))
theorem D6{p q:List Rat}(hz:aU q=false)(kX:q≠[]):(ld p q).1.length≤p.length+1-q.length:=by
 have key:∀(n:Nat) (out rest:List Rat),rest.length≤p.length→out.length≤p.length+1-q.length→(kr n out rest q).1.length≤p.length+1-q.length:=by
  intro n
  induction n with
  |zero=>intro out rest _ h;exact h
  |succ n ih =>
   intro out rest h1 h2
   rw[kr]
   cases hb:Nat.blt rest.length q.length with
   |true=>exact h2
   |false =>
    have hl:=qh.1 hb
    have hs:=lE (iL hz kX) (by intro e;exact kX (List.eq_nil_of_length_eq_zero e)) hl
    refine ih _ _ (by omega) ?_
    have h3:=eP (eS out (dL (rest.length-q.length) [stepC rest q]))
    rw[uw] at h3
    unfold dL at h3
    rw[List.length_append,List.length_replicate] at h3
    simp only[List.length_cons,List.length_nil] at h3
    unfold dL
    omega
 exact key _ _ _ (eP p) (by simp)
def xB(a b:Nat):Nat→Nat
 |0=>a
 |1=>b
 |j+2=>xB a b j+2*(xB a b (j+1)+1)
theorem Bd(a b:Nat)(h:a≤b):∀j,xB a b j≤xB a b (j+1)
 |0=>h
 |j+1=>by rw[xB];omega
theorem mE(a b:Nat)(h:a≤b){i j:Nat}(uS:i≤j):xB a b i≤xB a b j:=by
 induction uS with
 |refl=>exact Nat.le_refl _
 |step _ ih=>exact Nat.le_trans ih (Bd a b h _)
theorem Ai(a b:Nat)(h:a≤b)(j:Nat):∀d,xB a b j+(d+2)*(xB a b (j+1)+1)≤xB a b (j+1+(d+1))
 |0=>Nat.le_refl _
 |d+1=>by
  have ih:=Ai a b h j d
  have h1:=mE a b h (i:=j+1) (j:=j+1+d) (by omega)
  have e:xB a b (j+1+(d+1+1))=xB a b (j+1+d)+2*(xB a b (j+1+(d+1))+1):=rfl
  rw[e]
  have e2:(d+1+2)*(xB a b (j+1)+1)=(d+2)*(xB a b (j+1)+1)+(xB a b (j+1)+1):=by rw[show d+1+2=(d+2)+1 from by omega,Nat.add_mul,Nat.one_mul]
  rw[e2]
  omega
structure D7 (a b N i j:Nat) (p q:List Rat):Prop where
 hp:Ch (xB a b i) p
 hq:Ch (xB a b j) q
 lt:i<j
 len:q.length<p.length
 bound:j+p.length≤N+1
 zp:aU p=false
 zq:aU q=false
theorem D7.rest{a b N i j:Nat}{p q:List Rat}(e:D7 a b N i j p q)(pV:a≤b)(kX:q≠[]):Ch (xB a b (j+(p.length-q.length))) (qg p q)∧(qg p q).length<q.length:=by
 have h1:=e.hp.rest e.hq e.zq kX
 have hl:=(vK p e.zq kX).1
 have hlen:=e.len
 have cS:=e.lt
 refine⟨h1.mono ?_,hl⟩
 obtain⟨j',rfl⟩:∃j',j=j'+1:=⟨j-1,by omega⟩
 obtain⟨d,hd⟩:∃d,p.length-q.length=d+1:=⟨p.length-q.length-1,by omega⟩
 have h2:=mE a b pV (i:=i) (j:=j') (by omega)
 have h3:=Ai a b pV j' d
 rw[hd,show p.length+1-q.length=d+2 from by omega]
 omega
theorem D7.next{a b N i j:Nat}{p q r:List Rat}(e:D7 a b N i j p q)(pV:a≤b)(kX:q≠[])(hr:Ch (xB a b (j+(p.length-q.length))) r)(hl:r.length<q.length)(hz:aU r=false):D7 a b N j (j+(p.length-q.length)) q r:=by
 have:=e.len
 have:=e.bound
 exact⟨e.hq,hr,by omega,hl,by omega,e.zq,hz⟩
theorem D7.idx{a b N i j:Nat}{p q:List Rat}(e:D7 a b N i j p q):j≤N+1:=by have:=e.bound;omega
theorem Be{a b N:Nat}(ha:1≤a)(pV:a≤b):∀(n i j:Nat) (p q:List Rat),D7 a b N i j p q→Ch (xB a b (N+1)) (rb n p q)
 |0,i,j,p,q,e=>e.hp.mono (mE a b pV (by have:=e.idx;have:=e.lt;omega))
 |n+1,i,j,p,q,e=>by
  rw[rb]
  by_cases h:q.length=0
  ·rw[beq_iff.2 h,cond_true];exact e.hp.mono (mE a b pV (by have:=e.idx;have:=e.lt;omega))
  ·have fP:q≠[]:=fun e=>h (by rw[e];rfl)
   rw[iP.2 h,cond_false]
   obtain⟨h1,h2⟩:=e.rest pV fP
   have hz:=mv p q
   refine Be ha pV n _ _ q _ (e.next pV fP (h1.uz (Nat.le_trans ha (mE a b pV (i:=0) (Nat.zero_le _))) hz) (by rw[kl hz];exact h2) (jf _))
theorem Ch.derive{h:Nat}{p:List Rat}(hp:Ch h p)(hl:p.length≤1000):Ch (h+1) (cm p):=by
 refine Ch.trim ?_
 have key:∀(q:List Rat) (i:Nat) (j:Nat),coef (nz i q) j=((i+j:Nat):Int)*coef q j:=by
  intro q
  induction q with
  |nil=>intro i j;show(0:Rat)=_*0;rw[Rat.mul_zero]
  |cons a r ih =>
   intro i j
   cases j with
   |zero=>rfl
   |succ j =>
    rw[nz,cV,cV,ih (i+1) j,show i+1+j=i+(j+1) from by omega]
 have hd:∀j,coef (p.drop 1) j=coef p (j+1):=by
  intro j
  cases p with
  |nil=>rfl
  |cons a r=>rfl
 obtain⟨D,h1,h2,h3⟩:=hp
 refine⟨D,h1,by omega,fun i => ?_⟩
 rw[key,hd]
 by_cases hi:i+1<p.length
 ·obtain⟨n,e1,e2⟩:=h3 (i+1)
  refine⟨((1+i:Nat):Int)*n,?_,?_⟩
  ·rw[Rat.intCast_mul,←e1];grind
  ·have:=cK ((1+i:Nat):Int) n
   have:wl ((1+i:Nat):Int)≤1:=uh (by omega)
   omega
 ·rw[cv (by omega)]
  exact⟨0,by grind,Nat.zero_le _⟩
end Go.Proofs.YtnjhplhbmapclaaGreatDoor.Sym
