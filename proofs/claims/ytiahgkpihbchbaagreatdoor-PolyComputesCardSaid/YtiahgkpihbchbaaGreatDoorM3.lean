/- The statement PolyComputes is proved, its tables tied: sums, products, multiples and compositions are what is specified; no condition. -/
import Derived.Test.YtiahgkpihbchbaaGreatDoorM2
import Derived.Test.YtiahgkpihbchbaaGreatDoorRows
import Derived.Test.YtiahgkpihbchbaaGreatDoorCards
import Derived.Test.YtiahgkpihbchbaaGreatDoorTie
import Derived.Deep.DeepHandedRow
import Derived.SevenTiedAt
import Derived.LaidLaws
import Derived.Test.YtiahgkpihbchbaaGreatDoorM0
import Derived.JoinedCond
namespace Go.Proofs.YtiahgkpihbchbaaGreatDoor.Sym
open Go Path CInt
set_option linter.unusedVariables false
namespace C05
theorem of(l:List Int)(h:∀n∈l,InI64 n)(hl:l.length≤1000):Contract prg 40 [lpv intCell l] (pq (l.map (fun n=>((n:Int):Rat)))):=by
 have loop:∀d t:Nat,l.length-t=d→t≤l.length→linkworklaw05_Of.Loop1 (((l.take t).map (fun n=>((n:Int):Rat))).map mkR) l t (pq (l.map (fun n=>((n:Int):Rat)))):=by
  intro d
  induction d with
  |zero =>
   intro t hd ht
   have:t=l.length:=by omega
   subst this
   rw[List.take_length]
   exact linkworklaw05_Of.l11 _ _ _ (Nat.le_refl _)
  |succ d ih =>
   intro t hd ht
   obtain⟨v,hv⟩:∃v,l[t]? = some v:=⟨_,List.getElem?_eq_getElem (by omega)⟩
   have:=ih (t+1) (by omega) (by omega)
   rw[List.take_add_one,hv] at this
   refine linkworklaw05_Of.l10 _ l t v (mkR ((v:Int):Rat)) (by omega) hv (CRb.Of v (h v (List.mem_of_getElem? hv))) ?_ (by omega) ?_
   ·rw[List.length_append,List.length_map,List.length_map,List.length_take,List.length_singleton];omega
   ·simpa using this
 exact linkworklaw05_Of.e0 l (loop _ 0 rfl (by omega))
def Lo(a:ARat):Prop:=a.num.length≤1∧a.den.length≤1∧nat a.num≤1000∧nat a.den≤1000
theorem nat_one{l:Words}{v:UInt32}(hl:l.length<2)(h:l[0]? = some v):nat l=v.toNat:=by
 match l,hl,h with
 |[w],_,h=>simp at h;subst h;simp[nat]
theorem nat_none{l:Words}(h:l.length=0):nat l=0:=by rw[List.eq_nil_of_length_eq_zero h];rfl
theorem low(x:ARat):∃b,Contract prg 59 [x.pv,vW 1000,vW 1000] (vB b)∧(b=true→Lo x):=by
 have e:(1000:UInt32).toNat=1000:=rfl
 by_cases h1:x.num.length<2
 ·by_cases h2:x.den.length<2
  ·have den:nat x.num≤1000→∀v u:UInt32,x.den[0]? = some u→decide (u.toNat≤(1000:UInt32).toNat)=true→Lo x:=fun h v u hu hd=>⟨by omega,by omega,h,by rw[nat_one h2 hu];have:=of_decide_eq_true hd;omega⟩
   by_cases h3:x.num.length=0
   ·have hn:nat x.num≤1000:=by rw[nat_none h3];omega
    by_cases h4:x.den.length=0
    ·exact⟨_,linkworklaw05_low.e0 x _ _ h1 h2 h3 h4,fun _=>⟨by omega,by omega,hn,by rw[nat_none h4];omega⟩⟩
    ·obtain⟨v,hv⟩:∃v,x.den[0]? = some v:=⟨_,List.getElem?_eq_getElem (by omega)⟩
     exact⟨_,linkworklaw05_low.e1 x _ _ v h1 h2 h3 h4 hv,fun h=>den hn v v hv (by have h':=of_decide_eq_true h;exact decide_eq_true (by omega))⟩
   ·obtain⟨v,hv⟩:∃v,x.num[0]? = some v:=⟨_,List.getElem?_eq_getElem (by omega)⟩
    by_cases h5:v.toNat≤(1000:UInt32).toNat
    ·have hn:nat x.num≤1000:=by rw[nat_one h1 hv];omega
     by_cases h4:x.den.length=0
     ·exact⟨_,linkworklaw05_low.e2 x _ _ v h1 h2 h3 hv h5 h4,fun _=>⟨by omega,by omega,hn,by rw[nat_none h4];omega⟩⟩
     ·obtain⟨u,hu⟩:∃v,x.den[0]? = some v:=⟨_,List.getElem?_eq_getElem (by omega)⟩
      exact⟨_,linkworklaw05_low.e3 x _ _ v u h1 h2 h3 hv h5 h4 hu,fun h=>den hn v u hu (by have h':=of_decide_eq_true h;exact decide_eq_true (by omega))⟩
    ·exact⟨_,linkworklaw05_low.e4 x _ _ v h1 h2 h3 hv (by omega),fun h=>by cases h⟩
  ·exact⟨_,linkworklaw05_low.e5 x _ _ h1 (by omega),fun h=>by cases h⟩
 ·exact⟨_,linkworklaw05_low.e6 x _ _ (by omega),fun h=>by cases h⟩
def ShP(p:List ARat):Prop:=(p.length≤9∨65<p.length∧p.length≤100)∧∀a∈p,Lo a
theorem short(l:List (List ARat))(hl:l.length≤1000):∃b,Contract prg 12 [lpv (lcell ARat.cells) l] (vB b)∧(b=true→∀p∈l,ShP p):=by
 have inner:∀(t:Nat) (v:List ARat),(v.length≤9∨65<v.length∧v.length≤100)→t<l.length→(∃b,linkworklaw05_short.Loop1 l (t+1) (vB b)∧(b=true→∀p∈l.drop (t+1),ShP p)) →
   ∀d u:Nat,v.length-u=d→∃b,linkworklaw05_short.Loop2 l t v u (vB b)∧(b=true→(∀a∈v.drop u,Lo a)∧∀p∈l.drop (t+1),ShP p):=by
  intro t v hv6 ht ⟨b0,hL,hB⟩ d
  induction d with
  |zero =>
   intro u hd
   exact⟨b0,linkworklaw05_short.l22 l t v u (by omega) (by omega) hL,fun h=>⟨(by rw[List.drop_of_length_le (by omega)];intro a ha;cases ha),hB h⟩⟩
  |succ d ih =>
   intro u hd
   obtain⟨a,ha⟩:∃a,v[u]? = some a:=⟨_,List.getElem?_eq_getElem (by omega)⟩
   obtain⟨b1,h1,h2⟩:=low a
   cases b1 with
   |false=>exact⟨false,linkworklaw05_short.l20 l t v u a _ (by omega) ha h1 rfl,fun h=>by cases h⟩
   |true =>
    obtain⟨b,g1,g2⟩:=ih (u+1) (by omega)
    refine⟨b,linkworklaw05_short.l21 l t v u a _ (by omega) ha h1 rfl (by omega) g1,fun h=>⟨fun x hx => ?_,(g2 h).2⟩⟩
    rw[drop_cons ha] at hx
    rcases List.mem_cons.1 hx with rfl|hx
    ·exact h2 rfl
    ·exact(g2 h).1 x hx
 have outer:∀d t:Nat,l.length-t=d→∃b,linkworklaw05_short.Loop1 l t (vB b)∧(b=true→∀p∈l.drop t,ShP p):=by
  intro d
  induction d with
  |zero =>
   intro t hd
   exact⟨true,linkworklaw05_short.l15 l t (by omega),fun _=>by rw[List.drop_of_length_le (by omega)];intro p hp;cases hp⟩
  |succ d ih =>
   intro t hd
   obtain⟨v,hv⟩:∃v,l[t]? = some v:=⟨_,List.getElem?_eq_getElem (by omega)⟩
   have fin:(v.length≤9∨65<v.length∧v.length≤100)→(∀b,linkworklaw05_short.Loop2 l t v 0 (vB b)→linkworklaw05_short.Loop1 l t (vB b))→∃b,linkworklaw05_short.Loop1 l t (vB b)∧(b=true→∀p∈l.drop t,ShP p):=by
    intro h6 hLL
    obtain⟨b,g1,g2⟩:=inner t v h6 (by omega) (ih (t+1) (by omega)) _ 0 rfl
    refine⟨b,hLL b g1,fun h p hp => ?_⟩
    rw[drop_cons hv] at hp
    rcases List.mem_cons.1 hp with rfl|hp
    ·have:=(g2 h).1
     rw[List.drop_zero] at this
     exact⟨h6,this⟩
    ·exact(g2 h).2 p hp
   by_cases h6:v.length≤9
   ·exact fin (Or.inl h6) (fun b g=>linkworklaw05_short.l14 l t v (by omega) hv h6 (by omega) g)
   ·by_cases h7:v.length≤65
    ·exact⟨false,linkworklaw05_short.l10 l t v (by omega) hv (by omega) h7,fun h=>by cases h⟩
    ·by_cases h8:v.length≤100
     ·exact fin (Or.inr ⟨by omega,h8⟩) (fun b g=>linkworklaw05_short.l12 l t v (by omega) hv (by omega) (by omega) h8 g)
     ·exact⟨false,linkworklaw05_short.l11 l t v (by omega) hv (by omega) (by omega) (by omega),fun h=>by cases h⟩
 obtain⟨b,h1,h2⟩:=outer _ 0 rfl
 rw[List.drop_zero] at h2
 exact⟨b,linkworklaw05_short.e0 l h1,h2⟩
theorem same(q:List Rat)(hl:q.length≤1000)(hf:Fl 68719476736 q):Contract prg 17 [pq q,pq q] (vB true):=by
 have:=CBa.Rats (q.map mkR) (q.map mkR) (by rw[lenM];omega) (fun a ha=>by
  obtain⟨x,hx,rfl⟩:=List.mem_map.1 ha
  have:=fit_mkRk (hf x hx)
  omega)
 rw[eqRs_self] at this
 exact linkworkref05_Same.e0 _ _ _ this
theorem ShP.fit{p:List ARat}(h:ShP p){k:Nat}(hk:1≤k):FitP k p:=fun a ha=>⟨Nat.le_trans (h.2 a ha).1 hk,Nat.le_trans (h.2 a ha).2.1 hk⟩
structure S5 (p:List ARat):Prop where
 ep:(vals p).map mkR=p
 zp:lastZ (vals p)=false
 len:(vals p).length≤9
 fl:Fl 1 (vals p)
 pl:p.length=(vals p).length
theorem ShP.s5{p:List ARat}(h:ShP p)(hc:chk p=0):S5 p:=by
 have hl:=chk_len hc
 have pl:p.length=(vals p).length:=by unfold vals;rw[List.length_map]
 refine⟨vals_of (chk_valid hc),chk_last hc,?_,fl_vals (h.fit (by omega)) (by omega),pl⟩
 rcases h.1 with h1|h1<;>omega
theorem Lo.ht{a:ARat}(h:Lo a):ht a.val≤1:=ht_fit h.1 h.2.1 (by omega)
theorem chk2_parts{p q:List ARat}(h:chk2 p q=0):chk p=0∧chk q=0:=by
 unfold chk2 at h
 by_cases h1:chk p=0
 ·rw[if_pos h1] at h;exact⟨h1,h⟩
 ·rw[if_neg h1] at h;exact absurd h h1
end C05
end Go.Proofs.YtiahgkpihbchbaaGreatDoor.Sym
namespace Go.Proofs.YtiahgkpihbchbaaGreatDoor.Sym
set_option linter.unusedVariables false
def zerN(X:Nat→Rat):Nat→List Rat
 |0=>[1]
 |t+1=>trimL (mulL (zerN X t) [-(X t),1])
def outN(X Y:Nat→Rat):Nat→List Rat
 |0=>[]
 |t+1=>trimL (addL (outN X Y t) (smulL ((Y t-evalL (outN X Y t) (X t))/evalL (zerN X t) (X t)) (zerN X t)))
theorem eval_lin(a x:Rat):evalL [-a,1] x=x-a:=by
 show(0*x+1)*x + -a=x-a
 grind
theorem zerN_trim(X:Nat→Rat)(t:Nat):lastZ (zerN X t)=false:=by
 cases t with
 |zero=>show lastZ [1]=false;decide +kernel
 |succ t=>exact lastZ_trimL _
theorem outN_trim(X Y:Nat→Rat)(t:Nat):lastZ (outN X Y t)=false:=by
 cases t with
 |zero=>rfl
 |succ t=>exact lastZ_trimL _
theorem len_lin(p:List Rat)(a:Rat):(trimL (mulL p [-a,1])).length≤p.length+1:=by
 refine len_trim_le (fun i hi => ?_)
 have key:∀(p q:List Rat) (i:Nat),p.length+q.length≤i+1→coef (mulL p q) i=0:=by
  intro p
  induction p with
  |nil=>intro q i _;rfl
  |cons b p ih =>
   intro q i h
   rw[List.length_cons] at h
   rw[coef_mul_cons,coef_ge (p:=q) (by omega),Rat.mul_zero,Rat.zero_add]
   cases i with
   |zero=>rfl
   |succ i=>rw[coef_succ];exact ih q i (by omega)
 exact key p _ i (by simp only[List.length_cons,List.length_nil];omega)
theorem zerN_len(X:Nat→Rat):∀t,(zerN X t).length≤t+1
 |0=>Nat.le_refl _
 |t+1=>by
  have h1:=zerN_len X t
  have h2:=len_lin (zerN X t) (X t)
  rw[zerN];omega
theorem outN_len(X Y:Nat→Rat):∀t,(outN X Y t).length≤t
 |0=>Nat.le_refl _
 |t+1=>by
  have h1:=outN_len X Y t
  have h2:=zerN_len X t
  have h3:=len_trimL (addL (outN X Y t) (smulL ((Y t-evalL (outN X Y t) (X t))/evalL (zerN X t) (X t)) (zerN X t)))
  rw[len_addL,len_smulL] at h3
  rw[outN];omega
theorem zerN_eval(X:Nat→Rat)(x:Rat)(t:Nat):evalL (zerN X (t+1)) x=evalL (zerN X t) x*(x-X t):=by
 rw[zerN,evalL_trimL,evalL_mulL,eval_lin]
theorem one_ne:(1:Rat)≠0:=by decide
theorem zerN_ne(X:Nat→Rat){x:Rat} : ∀t,(∀k,k<t→X k≠x)→evalL (zerN X t) x≠0
 |0,_=>by
  show(0:Rat)*x+1≠0
  intro e
  exact one_ne (by grind)
 |t+1,h=>by
  rw[zerN_eval]
  intro e
  rcases Rat.mul_eq_zero.1 e with e|e
  ·exact zerN_ne X t (fun k hk=>h k (by omega)) e
  ·exact h t (Nat.lt_succ_self t) (by grind)
end Go.Proofs.YtiahgkpihbchbaaGreatDoor.Sym
namespace Go.Proofs.YtiahgkpihbchbaaGreatDoor.Sym
open Go Path CInt
set_option linter.unusedVariables false
def zB:Nat→Nat
 |0=>1
 |t+1=>2*(zB t+1+1)+1
def cTh(o z t:Nat):Nat:=1+(t*(2*o+1)+1)+1+((t+1)*(2*z+1)+1)
def oB:Nat→Nat
 |0=>1
 |t+1=>oB t+(cTh (oB t) (zB t) t+zB t)+1
theorem zB_all:∀t,t<10→1≤zB t∧zB t≤6139:=by decide +kernel
theorem oB_all:∀t,t<10→1≤oB t∧oB t≤1344799678∧(t<9→oB t≤1073741824∧cTh (oB t) (zB t) t≤1344799678):=by decide +kernel
theorem fl_lin{a:Rat}(h:ht a≤1):Fl 1 [-a,1]:=by
 intro x hx
 rcases List.mem_cons.1 hx with rfl|hx
 ·rw[ht_neg];exact h
 ·rw[List.mem_singleton.1 hx];decide
theorem fl_times_lin{k:Nat}{p:List Rat}{a:Rat}(hp:Fl k p)(hk:1≤k)(h:ht a≤1):Fl (2*(k+1+1)+1) (trimL (mulL p [-a,1])) :=
 fl_trimL (fl_mul_min (n:=2) hp (fl_lin h) hk (by omega) (Or.inr (by simp)))
theorem zerN_fl{X:Nat→Rat}(hX:∀k,ht (X k)≤1):∀t,t<10→Fl (zB t) (zerN X t)
 |0,_=>by intro x hx;rw[List.mem_singleton.1 hx];decide
 |t+1,h=>fl_times_lin (zerN_fl hX t (by omega)) (zB_all t (by omega)).1 (hX t)
theorem out_step{X Y:Nat→Rat}{t:Nat}(ht9:t<9)(hX:∀k,ht (X k)≤1)(hY:∀k,ht (Y k)≤1)(ho:Fl (oB t) (outN X Y t)) :
  ht (evalL (outN X Y t) (X t))≤t*(2*oB t+1)+1∧ht (evalL (zerN X t) (X t))≤(t+1)*(2*zB t+1)+1∧ht ((Y t-evalL (outN X Y t) (X t))/evalL (zerN X t) (X t))≤cTh (oB t) (zB t) t:=by
 have b1:=oB_all t (by omega)
 have b2:=zB_all t (by omega)
 have hz:=zerN_fl hX t (by omega)
 have e1:=ht_eval (outN X Y t) (X t) (oB t) ho (by have:=hX t;omega)
 have e2:=ht_eval (zerN X t) (X t) (zB t) hz (by have:=hX t;omega)
 have l1:(outN X Y t).length*(2*oB t+1)≤t*(2*oB t+1):=Nat.mul_le_mul_right _ (outN_len X Y t)
 have l2:(zerN X t).length*(2*zB t+1)≤(t+1)*(2*zB t+1):=Nat.mul_le_mul_right _ (zerN_len X t)
 have d1:=ht_sub (Y t) (evalL (outN X Y t) (X t))
 have d2:=ht_div (Y t-evalL (outN X Y t) (X t)) (evalL (zerN X t) (X t))
 have d3:=hY t
 refine⟨by omega,by omega,?_⟩
 unfold cTh
 omega
theorem outN_fl{X Y:Nat→Rat}(hX:∀k,ht (X k)≤1)(hY:∀k,ht (Y k)≤1):∀t,t<10→Fl (oB t) (outN X Y t)
 |0,_=>by intro x hx;cases hx
 |t+1,h=>by
  have ih:=outN_fl hX hY t (by omega)
  have s:=out_step (by omega) hX hY ih
  have b1:=(oB_all t (by omega)).1
  have b2:=(zB_all t (by omega)).1
  have h1:Fl (cTh (oB t) (zB t) t+zB t) (smulL ((Y t-evalL (outN X Y t) (X t))/evalL (zerN X t) (X t)) (zerN X t)):=fl_mono (fl_smulL (zerN_fl hX t (by omega))) (by omega)
  exact fl_trimL (fl_addL ih h1 b1 (by omega))
theorem fitP_get{k:Nat}{p:List ARat}{i:Nat}{v:ARat}(h:FitP k p)(hv:p[i]? = some v):v.num.length≤k∧v.den.length≤k:=h v (List.mem_of_getElem? hv)
theorem valsX{p:List ARat}{i:Nat}{v:ARat}(hv:p[i]? = some v):coef (vals p) i=v.val:=coef_of (by unfold vals;rw[List.getElem?_map,hv];rfl)
theorem ht_valsX{p:List ARat}(h:FitP 1 p)(i:Nat):ht (coef (vals p) i)≤1:=by
 have:=fl_coef (fl_vals h (by omega)) (by omega) i
 exact this
namespace CTh
section
variable {x y:List ARat} (hx:FitP 1 x) (hy:FitP 1 y)
def Dis(X:Nat→Rat)(n:Nat):Prop:=∀i j,i<j→j<n→X i≠X j
abbrev EE(n:Int):PV := .tup [polyPV [],errPV (some n)]
theorem inner_ok(t:Nat)(v:List ARat)(hv:FitP 1 v)(hl:v.length≤1000)(ht:t<2){r:PV}(hL:poly_Through.Loop1 x y (t+1) r):∀d u:Nat,v.length-u=d→(∀a∈v.drop u,a.valid=true)→poly_Through.Loop2 x y t v u r:=by
 intro d
 induction d with
 |zero=>intro u hd _;exact poly_Through.l22 _ _ _ _ _ (by omega) (by omega) hL
 |succ d ih =>
  intro u hd ha
  obtain⟨a,he⟩:∃a,v[u]? = some a:=⟨_,List.getElem?_eq_getElem (by omega)⟩
  rw[drop_cons he] at ha
  have hc:=CFr.Valid a (by have:=fitP_get hv he;exact⟨by omega,by omega⟩)
  exact poly_Through.l21 _ _ _ _ _ _ _ (by omega) he hc (ha a (by simp)) (by omega) (ih (u+1) (by omega) (fun b hb=>ha b (by simp[hb])))
theorem dis4_ok(i:Nat)(hi:i<x.length)(hl:x.length≤1000)(hx:FitP 1 x)(hxv:∀a∈x,a.valid=true){r:PV}(hL:poly_Through.Loop3 x y (i+1) r):∀d u:Nat,i-u=d→u≤i→(∀k,u≤k→k<i→coef (vals x) k≠coef (vals x) i)→poly_Through.Loop4 x y i i i u r:=by
 intro d
 induction d with
 |zero=>intro u hd hu _;exact poly_Through.l42 _ _ _ _ _ _ (by omega) (by omega) hL
 |succ d ih =>
  intro u hd hu h
  obtain⟨a,he⟩:∃a,x[i]? = some a:=⟨_,List.getElem?_eq_getElem hi⟩
  obtain⟨b,hb⟩:∃a,x[u]? = some a:=⟨_,List.getElem?_eq_getElem (by omega)⟩
  have f1:=fitP_get hx he
  have f2:=fitP_get hx hb
  have hc:=CFr.Cmp a b ⟨by omega,by omega⟩ ⟨by omega,by omega⟩
  refine poly_Through.l41 _ _ _ _ _ _ _ _ _ (by omega) he hb hc ?_ (by omega) (ih (u+1) (by omega) (by omega) (fun k h1 h2=>h k (by omega) h2))
  intro e
  have:=cmpR_eq.1 e
  exact h u (Nat.le_refl u) (by omega) (by rw[valsX he,valsX hb,this])
theorem dis4_bad(i:Nat)(hi:i<x.length)(hl:x.length≤1000)(hx:FitP 1 x):∀d u:Nat,i-u=d→(∃k,u≤k∧k<i∧coef (vals x) k=coef (vals x) i)→poly_Through.Loop4 x y i i i u (EE 6):=by
 intro d
 induction d with
 |zero=>intro u hd ⟨k,h1,h2,_⟩;omega
 |succ d ih =>
  intro u hd ⟨k,h1,h2,h3⟩
  obtain⟨a,he⟩:∃a,x[i]? = some a:=⟨_,List.getElem?_eq_getElem hi⟩
  obtain⟨b,hb⟩:∃a,x[u]? = some a:=⟨_,List.getElem?_eq_getElem (by omega)⟩
  have f1:=fitP_get hx he
  have f2:=fitP_get hx hb
  have hc:=CFr.Cmp a b ⟨by omega,by omega⟩ ⟨by omega,by omega⟩
  by_cases e:cmpR a.val b.val=0
  ·exact poly_Through.l40 _ _ _ _ _ _ _ _ _ (by omega) he hb hc e
  ·refine poly_Through.l41 _ _ _ _ _ _ _ _ _ (by omega) he hb hc e (by omega) (ih (u+1) (by omega) ⟨k,?_,h2,h3⟩)
   rcases Nat.lt_or_eq_of_le h1 with h|h
   ·exact h
   ·subst h
    exact absurd (cmpR_eq.2 (by rw[valsX he,valsX hb] at h3;exact h3.symm)) e
theorem dis3(hl:x.length≤1000)(hx:FitP 1 x)(hxv:∀a∈x,a.valid=true):∀d t:Nat,x.length-t=d→t≤x.length →
  ((∀i,t≤i→i<x.length→∀k,k<i→coef (vals x) k≠coef (vals x) i)→∀r,poly_Through.Loop5 x y [] [mkR ((1:Int):Rat)] 0 r→poly_Through.Loop3 x y t r) ∧
  ((∃i,t≤i∧i<x.length∧∃k,k<i∧coef (vals x) k=coef (vals x) i)→poly_Through.Loop3 x y t (EE 6)):=by
 intro d
 induction d with
 |zero =>
  intro t hd ht
  exact⟨fun _ r hL=>poly_Through.l31 _ _ _ _ (by omega) (CFr.Of 1 (by unfold InI64;omega)) hL,fun ⟨i,h1,h2,_⟩=>by omega⟩
 |succ d ih =>
  intro t hd ht
  obtain⟨i1,i2⟩:=ih (t+1) (by omega) (by omega)
  refine⟨fun h r hL=>poly_Through.l30 _ _ _ (by omega) (dis4_ok t (by omega) hl hx hxv (i1 (fun i a b=>h i (by omega) b) r hL) _ 0 rfl (by omega) (fun k _ h2=>h t (Nat.le_refl t) (by omega) k h2)),fun ⟨i,h1,h2,k,h3,h4⟩ => ?_⟩
  by_cases e:∃k,k<t∧coef (vals x) k=coef (vals x) t
  ·obtain⟨k,k1,k2⟩:=e
   exact poly_Through.l30 _ _ _ (by omega) (dis4_bad t (by omega) hl hx _ 0 rfl ⟨k,by omega,k1,k2⟩)
  ·refine poly_Through.l30 _ _ _ (by omega) (dis4_ok t (by omega) hl hx hxv (i2 ⟨i,?_,h2,k,h3,h4⟩) _ 0 rfl (by omega) (fun k _ h5 h6=>e ⟨k,h5,h6⟩))
   rcases Nat.lt_or_eq_of_le h1 with h|h
   ·exact h
   ·subst h;exact absurd ⟨k,h3,h4⟩ e
theorem newton(hx:FitP 1 x)(hy:FitP 1 y)(hl:x.length≤9)(hxy:x.length=y.length)(hxv:∀a∈x,a.valid=true)(hyv:∀a∈y,a.valid=true)(hd:Dis (coef (vals x)) x.length):∀d t:Nat,x.length-t=d→t≤x.length →
  poly_Through.Loop5 x y ((outN (coef (vals x)) (coef (vals y)) t).map mkR) ((zerN (coef (vals x)) t).map mkR) t (.tup [pq (outN (coef (vals x)) (coef (vals y)) x.length),.nilI]):=by
 have hX:=ht_valsX hx
 have hY:=ht_valsX hy
 intro d
 induction d with
 |zero =>
  intro t hd ht
  have:t=x.length:=by omega
  subst this
  exact poly_Through.l55 _ _ _ _ _ (Nat.le_refl _)
 |succ d ih =>
  intro t hd' ht
  obtain⟨a,ha⟩:∃a,x[t]? = some a:=⟨_,List.getElem?_eq_getElem (by omega)⟩
  obtain⟨b,hb⟩:∃a,y[t]? = some a:=⟨_,List.getElem?_eq_getElem (by omega)⟩
  have ea:a=mkR (coef (vals x) t):=by rw[valsX ha,mkR_of (hxv a (List.mem_of_getElem? ha))]
  have eb:b=mkR (coef (vals y) t):=by rw[valsX hb,mkR_of (hyv b (List.mem_of_getElem? hb))]
  have fo:=outN_fl hX hY t (by omega)
  have fz:=zerN_fl hX t (by omega)
  have b1:=oB_all t (by omega)
  have b2:=zB_all t (by omega)
  have b3:=b1.2.2 (by omega)
  obtain⟨s1,s2,s3⟩:=out_step (by omega) hX hY fo
  have hXt:=hX t
  have hYt:=hY t
  have lo:=outN_len (coef (vals x)) (coef (vals y)) t
  have lz:=zerN_len (coef (vals x)) t
  have c0:cTh (oB t) (zB t) t=1+(t*(2*oB t+1)+1)+1+((t+1)*(2*zB t+1)+1):=rfl
  have h3:=PQ.Eval (k:=oB t) _ (coef (vals x) t) (outN_trim _ _ t) (by omega) fo (by omega) (by omega)
  have h4:=PQ.Eval (k:=zB t) _ (coef (vals x) t) (zerN_trim _ t) (by omega) fz (by omega) (by omega)
  have hz0:=zerN_ne (coef (vals x)) (x:=coef (vals x) t) t (fun k hk=>hd k t hk (by omega))
  have h6:=QF.Sub (coef (vals y) t) (evalL (outN (coef (vals x)) (coef (vals y)) t) (coef (vals x) t)) (by omega) (by omega)
  have hsub:=ht_sub (coef (vals y) t) (evalL (outN (coef (vals x)) (coef (vals y)) t) (coef (vals x) t))
  have h7:=QF.Div _ _ (show Sym.ht (coef (vals y) t-evalL (outN (coef (vals x)) (coef (vals y)) t) (coef (vals x) t))≤68719476736 by omega) (show Sym.ht (evalL (zerN (coef (vals x)) t) (coef (vals x) t))≤68719476736 by omega) hz0
  have h8:=CPl.plus (outN (coef (vals x)) (coef (vals y)) t) (zerN (coef (vals x)) t) _ (by omega) (by omega) fo fz s3 b1.1 b2.1 (by omega)
  have h10:=QF.Neg (coef (vals x) t) (by omega)
  have h11:=CFr.Of 1 (by unfold InI64;omega)
  have h12:=CPl.times 2 (zerN (coef (vals x)) t) [-(coef (vals x) t),1] (by omega) (by simp) fz (fl_lin hXt) b2.1 (by omega) (Or.inr (by simp)) (by omega)
  subst ea;subst eb
  exact poly_Through.l50 _ _ _ _ _ _ _ _ _ _ _ _ _ _ _ (by omega) ha h3 h4 hb h6 h7 h8 (by omega) h10 h11 h12 (by omega) (ih (t+1) (by omega) (by omega))
theorem Through_ok(hx:FitP 1 x)(hy:FitP 1 y)(hl:x.length≤9)(hxy:x.length=y.length)(hxv:∀a∈x,a.valid=true)(hyv:∀a∈y,a.valid=true)(hd:Dis (coef (vals x)) x.length):Contract prg 14 [polyPV x,polyPV y] (.tup [pq (outN (coef (vals x)) (coef (vals y)) x.length),.nilI]):=by
 have n:=newton hx hy hl hxy hxv hyv hd _ 0 rfl (by omega)
 have d:=(dis3 (y:=y) (by omega) hx hxv _ 0 rfl (by omega)).1 (fun i _ hi k hk=>hd k i hk hi) _ n
 have b:=inner_ok 1 y hy (by omega) (by omega) (poly_Through.l11 _ _ 2 (by omega) d) _ 0 rfl (by rw[List.drop_zero];exact hyv)
 have a:=inner_ok 0 x hx (by omega) (by omega) (poly_Through.l10 _ _ 1 y (by omega) rfl b) _ 0 rfl (by rw[List.drop_zero];exact hxv)
 exact poly_Through.e2 x y hxy (by omega) (poly_Through.l10 _ _ 0 x (by omega) rfl a)
end
end CTh
end Go.Proofs.YtiahgkpihbchbaaGreatDoor.Sym
namespace Go.Proofs.YtiahgkpihbchbaaGreatDoor.Sym
open Go Path CInt
set_option linter.unusedVariables false
theorem ratT_int(n:Int):ratT (n:Rat)=numT n:=by
 unfold ratT
 rw[if_pos (by rw[Rat.den_intCast];rfl),Rat.num_intCast]
namespace C05
abbrev exA:List Rat:=[((2:Int):Rat),((-3:Int):Rat),((1:Int):Rat)]
abbrev exB:List Rat:=[((-1:Int):Rat),((1:Int):Rat)]
abbrev exC:List Rat:=[((2:Int):Rat),((-3:Int):Rat),((0:Int):Rat),((1:Int):Rat)]
theorem textA:Contract prg 21 [pq exA] (.tup [.str (ByteArray.mk #[49,32,120,94,50,32,43,32,45,51,32,120,32,43,32,50]),.nilI]):=by
 have fA:Fl 1 exA:=by decide +kernel
 have hck:=CPo.Check (exA.map mkR) (fitQ fA (by omega))
 rw[chk_map (by decide +kernel) (by decide)] at hck
 have t1:=CTx.fText_small ((1:Int):Rat) (by decide) (by decide)
 have t2:=CTx.fText_small ((2:Int):Rat) (by decide) (by decide)
 have t3:=CTx.fText_small ((-3:Int):Rat) (by decide) (by decide)
 have n1:numT 1=ByteArray.mk #[49]:=by unfold numT;rw[if_neg (by decide),show(1:Int).natAbs=1 from rfl,dig_small (by omega)];rfl
 have n2:numT 2=ByteArray.mk #[50]:=by unfold numT;rw[if_neg (by decide),show(2:Int).natAbs=2 from rfl,dig_small (by omega)];rfl
 have n3:numT (-3)=ByteArray.mk #[45,51]:=by unfold numT;rw[if_pos (by decide),show(-3:Int).natAbs=3 from rfl,dig_small (by omega)];decide +kernel
 rw[ratT_int,n1] at t1
 rw[ratT_int,n2] at t2
 rw[ratT_int,n3] at t3
 have i2:=Itoa_small 2 (by omega)
 rw[dig_small (by omega),show UInt8.ofNat (48+2)=50 from rfl] at i2
 have s1:=QF.Sign ((1:Int):Rat) (by decide)
 have s2:=QF.Sign ((2:Int):Rat) (by decide)
 have s3:=QF.Sign ((-3:Int):Rat) (by decide)
 have hj:=Join [ByteArray.mk #[49]++ByteArray.mk #[32,120]++(ByteArray.mk #[94]++ByteArray.mk #[50]),ByteArray.mk #[45,51]++ByteArray.mk #[32,120],ByteArray.mk #[50]] (ByteArray.mk #[32,43,32]) (by simp) (by decide +kernel)
 have ej:joinB [ByteArray.mk #[49]++ByteArray.mk #[32,120]++(ByteArray.mk #[94]++ByteArray.mk #[50]),ByteArray.mk #[45,51]++ByteArray.mk #[32,120],ByteArray.mk #[50]] (ByteArray.mk #[32,43,32])=ByteArray.mk #[49,32,120,94,50,32,43,32,45,51,32,120,32,43,32,50]:=by decide +kernel
 rw[ej] at hj
 have e:(((exA.map mkR).length:Nat):Int)-1=2:=rfl
 have l3:=poly_Text.l15 (exA.map mkR) _ (0-1) _ (by omega) hj
 have l2:=poly_Text.l14 (exA.map mkR) [ByteArray.mk #[49]++ByteArray.mk #[32,120]++(ByteArray.mk #[94]++ByteArray.mk #[50]),ByteArray.mk #[45,51]++ByteArray.mk #[32,120]] 0 0 (mkR ((2:Int):Rat)) _ 0 (mkR ((2:Int):Rat)) _ (by omega) rfl rfl s2 (by decide +kernel) rfl rfl t2 (by omega) (by omega) (by simp) (by unfold InI64;omega) l3
 have l1:=poly_Text.l12 (exA.map mkR) [ByteArray.mk #[49]++ByteArray.mk #[32,120]++(ByteArray.mk #[94]++ByteArray.mk #[50])] (2-1) 1 (mkR ((-3:Int):Rat)) _ 1 (mkR ((-3:Int):Rat)) _ (by omega) rfl rfl s3 (by decide +kernel) rfl rfl t3 (by omega) (by decide) (by omega) (by simp) (by unfold InI64;omega) l2
 have l0:=poly_Text.l11 (exA.map mkR) [] 2 2 (mkR ((1:Int):Rat)) _ 2 (mkR ((1:Int):Rat)) _ _ (by omega) rfl rfl s1 (by decide +kernel) rfl rfl t1 (by omega) (by decide) (by omega) i2 (by decide) (by decide +kernel) (by simp) (by unfold InI64;omega) l1
 exact poly_Text.e1 _ hck (by decide) (by rw[e];unfold InI64;omega) (by rw[e];exact l0)
theorem throughA:Contract prg 14 [pq [((0:Int):Rat),((1:Int):Rat),((2:Int):Rat)],pq [((1:Int):Rat),((2:Int):Rat),((5:Int):Rat)]] (.tup [pq [((1:Int):Rat),((0:Int):Rat),((1:Int):Rat)],.nilI]):=by
 have vm:∀q:List Rat,∀a∈q.map mkR,a.valid=true:=fun q a ha=>by
  obtain⟨x,_,rfl⟩:=List.mem_map.1 ha
  exact mkR_valid x
 have f1:FitP 1 ([((0:Int):Rat),((1:Int):Rat),((2:Int):Rat)].map mkR):=fit_mapk (by decide +kernel)
 have f2:FitP 1 ([((1:Int):Rat),((2:Int):Rat),((5:Int):Rat)].map mkR):=fit_mapk (by decide +kernel)
 have hd:∀j,j<3→∀i,i<j→coef [((0:Int):Rat),((1:Int):Rat),((2:Int):Rat)] i≠coef [((0:Int):Rat),((1:Int):Rat),((2:Int):Rat)] j:=by decide +kernel
 have h:=CTh.Through_ok f1 f2 (by decide) rfl (vm _) (vm _) (by
  intro i j h1 h2
  rw[vals_mkR]
  exact hd j h2 i h1)
 rw[vals_mkR,vals_mkR] at h
 have e:outN (coef [((0:Int):Rat),((1:Int):Rat),((2:Int):Rat)]) (coef [((1:Int):Rat),((2:Int):Rat),((5:Int):Rat)]) ([((0:Int):Rat),((1:Int):Rat),((2:Int):Rat)].map mkR).length=[((1:Int):Rat),((0:Int):Rat),((1:Int):Rat)]:=by decide +kernel
 rwa[e] at h
theorem awake:Contract prg 13 [] (vB true):=by
 have a1:=of [2, -3,1] (by unfold InI64;decide) (by decide)
 have a2:=of [-1,1] (by unfold InI64;decide) (by decide)
 have a3:=of [2, -3,0,1] (by unfold InI64;decide) (by decide)
 have a4:=of [0,1,2] (by unfold InI64;decide) (by decide)
 have a5:=of [1,2,5] (by unfold InI64;decide) (by decide)
 have a6:=of [-2,1] (by unfold InI64;decide) (by decide)
 have a7:=of [-2,1,1] (by unfold InI64;decide) (by decide)
 have a8:=of [1,0,1] (by unfold InI64;decide) (by decide)
 have fA:Fl 1 exA:=by decide +kernel
 have fB:Fl 1 exB:=by decide +kernel
 have fC:Fl 1 exC:=by decide +kernel
 have hd:=PQ.Div (h:=4) (b:=3) exA exB (by decide +kernel) (by decide +kernel) (by simp) (by decide) (by decide) (Ch.of_fl fA) (Ch.of_fl fB) (by omega) (by omega) (by decide)
 have ed1:(divL exA exB).1=[((-2:Int):Rat),((1:Int):Rat)]:=by decide +kernel
 have ed2:(divL exA exB).2=[]:=by decide +kernel
 rw[ed1,ed2] at hd
 have hF:=PQ.Free (h:=5) (L:=4) (p:=exC) ⟨by decide +kernel,by simp,by decide,Ch.of_fl fC,by omega,by omega,by decide⟩
 have eF:freeL exC=[((-2:Int):Rat),((1:Int):Rat),((1:Int):Rat)]:=by decide +kernel
 rw[eF] at hF
 have s1:=same [((-2:Int):Rat),((1:Int):Rat)] (by decide) (by decide +kernel)
 have s2:=same [((-2:Int):Rat),((1:Int):Rat),((1:Int):Rat)] (by decide) (by decide +kernel)
 have s3:=same [((1:Int):Rat),((0:Int):Rat),((1:Int):Rat)] (by decide) (by decide +kernel)
 exact linkworklaw05_awake.e0 _ _ _ _ _ _ _ _ _ _ _ _ _ _ _ _ _ a1 a2 hd a1 textA a3 hF a4 a5 throughA a6 s1 rfl rfl rfl a7 s2 rfl a8 s3
end C05
end Go.Proofs.YtiahgkpihbchbaaGreatDoor.Sym

namespace Go.Proofs.YtiahgkpihbchbaaGreatDoor.Sym
open Go Path CInt
set_option linter.unusedVariables false
namespace C05
theorem S5.pv{p:List ARat}(s:S5 p):pq (vals p)=polyPV p:=by unfold pq;rw[s.ep]
def Two(f g:FuncId)(args:List PV):Prop:=∃(q:List Rat) (e:Option Int),Contract prg f args (.tup [pq q,errPV e])∧Contract prg g args (.tup [pq q,vI (e.getD 0)])∧q.length≤1000∧Fl 68719476736 q
theorem Two.err{f g:FuncId}{args:List PV}(n:Int)(h1:Contract prg f args (.tup [polyPV [],errPV (some n)]))(h2:Contract prg g args (.tup [polyPV [],vI n])):Two f g args :=
 ⟨[],some n,h1,h2,by simp,fun x hx=>by cases hx⟩
theorem Two.ok{f g:FuncId}{args:List PV}(q:List Rat)(h1:Contract prg f args (.tup [pq q,.nilI]))(h2:Contract prg g args (.tup [pq q,vI 0]))(hl:q.length≤1000)(hf:Fl 68719476736 q):Two f g args :=
 ⟨q,none,h1,h2,hl,hf⟩
theorem len_compL:∀(p q:List Rat) (n:Nat),q.length≤n→(compL p q).length≤p.length*n+1
 |[],_,_,_=>by simp[compL]
 |a::r,q,n,h=>by
  have ih:=len_compL r q n h
  have h2:=len_mulL (compL r q) q
  rw[List.length_cons,Nat.add_mul,Nat.one_mul,compL,len_addL]
  simp only[List.length_cons,List.length_nil]
  omega
variable {p q:List ARat} {c:ARat}
theorem tAdd(hp:ShP p)(hq:ShP q):Two 37 46 [polyPV p,polyPV q]:=by
 have k1:=CPl.checks2 p q (hp.fit (by omega)) (hq.fit (by omega))
 have k2:=CPr.both p q (hp.fit (by omega)) (hq.fit (by omega))
 by_cases h:chk2 p q=0
 ·obtain⟨a,b⟩:=chk2_parts h
  have s:=hp.s5 a
  have u:=hq.s5 b
  have ls:=s.len
  have lu:=u.len
  have h1:=PQ.Add (vals p) (vals q) s.zp u.zp (by omega) (by omega) s.fl u.fl (by omega) (by omega) (by omega)
  have h2:=RQ.Add (vals p) (vals q) s.zp u.zp (by omega) (by omega) s.fl u.fl (by omega) (by omega) (by omega)
  rw[s.pv,u.pv] at h1 h2
  refine Two.ok _ h1 h2 ?_ ?_
  ·have:=len_trimL (addL (vals p) (vals q));rw[len_addL] at this;omega
  ·exact fl_trimL (fl_mono (fl_addL s.fl u.fl (by omega) (by omega)) (by omega))
 ·rw[errOf_ne h] at k1
  exact Two.err _ (poly_Add.e1 _ _ _ k1) (linkworkref05_Add.e0 _ _ _ k2 h)
theorem tSub(hp:ShP p)(hq:ShP q):Two 44 47 [polyPV p,polyPV q]:=by
 have k1:=CPl.checks2 p q (hp.fit (by omega)) (hq.fit (by omega))
 have k2:=CPr.both p q (hp.fit (by omega)) (hq.fit (by omega))
 by_cases h:chk2 p q=0
 ·obtain⟨a,b⟩:=chk2_parts h
  have s:=hp.s5 a
  have u:=hq.s5 b
  have ls:=s.len
  have lu:=u.len
  have h1:=PQ.Sub (vals p) (vals q) s.zp u.zp (by omega) (by omega) s.fl u.fl (by omega) (by omega) (by omega)
  have h2:=RQ.Sub (vals p) (vals q) s.zp u.zp (by omega) (by omega) s.fl u.fl (by omega) (by omega) (by omega)
  have fu:Fl 2 (smulL (-1) (vals q)):=fl_mono (fl_smulL u.fl) (by decide)
  rw[s.pv,u.pv] at h1 h2
  refine Two.ok _ h1 h2 ?_ ?_
  ·have:=len_trimL (addL (vals p) (smulL (-1) (vals q)));rw[len_addL,len_smulL] at this;omega
  ·exact fl_trimL (fl_mono (fl_addL s.fl fu (by omega) (by omega)) (by omega))
 ·rw[errOf_ne h] at k1
  exact Two.err _ (poly_Sub.e1 _ _ _ k1) (linkworkref05_Sub.e0 _ _ _ k2 h)
theorem tMul(hp:ShP p)(hq:ShP q):Two 36 48 [polyPV p,polyPV q]:=by
 have k1:=CPl.checks2 p q (hp.fit (by omega)) (hq.fit (by omega))
 have k2:=CPr.both p q (hp.fit (by omega)) (hq.fit (by omega))
 by_cases h:chk2 p q=0
 ·obtain⟨a,b⟩:=chk2_parts h
  have s:=hp.s5 a
  have u:=hq.s5 b
  have ls:=s.len
  have lu:=u.len
  have h1:=PQ.Mul 9 (vals p) (vals q) s.zp u.zp (by omega) (by omega) s.fl u.fl (by omega) (by omega) (Or.inl (by omega)) (by omega) (by omega)
  have h2:=RQ.Mul 9 (vals p) (vals q) s.zp u.zp (by omega) (by omega) s.fl u.fl (by omega) (by omega) (Or.inl (by omega)) (by omega) (by omega)
  rw[s.pv,u.pv] at h1 h2
  refine Two.ok _ h1 h2 ?_ ?_
  ·have:=len_trim_mul (vals p) (vals q);omega
  ·exact fl_trimL (fl_mono (fl_mul_min (n:=9) s.fl u.fl (by omega) (by omega) (Or.inl (by omega))) (by omega))
 ·rw[errOf_ne h] at k1
  exact Two.err _ (poly_Mul.e4 _ _ _ k1) (linkworkref05_Mul.e0 _ _ _ k2 h)
theorem tCompose(hp:ShP p)(hq:ShP q)(lp:p.length≤5)(lq:q.length≤5):Two 43 50 [polyPV p,polyPV q]:=by
 have k1:=CPl.checks2 p q (hp.fit (by omega)) (hq.fit (by omega))
 have k2:=CPr.both p q (hp.fit (by omega)) (hq.fit (by omega))
 by_cases h:chk2 p q=0
 ·obtain⟨a,b⟩:=chk2_parts h
  have s:=hp.s5 a
  have u:=hq.s5 b
  have ls:=s.len
  have lu:=u.len
  have h0:chk2 ((vals p).map mkR) ((vals q).map mkR)=0:=by rw[s.ep,u.ep];exact h
  have hpl:=s.pl
  have hql:=u.pl
  have hd:¬(1<(vals p).length∧1<(vals q).length∧64<((vals p).length-1)*((vals q).length-1)):=by
   intro⟨_,_,hx⟩
   have:((vals p).length-1)*((vals q).length-1)≤4*4:=Nat.mul_le_mul (by omega) (by omega)
   omega
  have cb:∀n,n<6→(5+1)*(cB 5 1 1 n+1+1)+1+3≤68719476736∧cB 5 1 1 n≤68719476736:=by decide
  have cb1:=cb (vals p).length (by omega)
  have h1:=CPl.Compose 5 (vals p) (vals q) h0 hd s.fl u.fl (by omega) (by omega) (by omega) (by omega) cb1.1
  have h2:=CPr.Compose 5 (vals p) (vals q) h0 hd s.fl u.fl (by omega) (by omega) (by omega) (by omega) cb1.1
  rw[s.pv,u.pv] at h1 h2
  refine Two.ok _ h1 h2 ?_ ?_
  ·have:=len_trimL (compL (vals p) (vals q));have:=len_compL (vals p) (vals q) 5 (by omega);have:(vals p).length*5≤5*5:=Nat.mul_le_mul_right _ (by omega);omega
  ·exact fl_trimL (fl_mono (fl_compL u.fl (by omega) (by omega) (by omega) (vals p) s.fl) cb1.2)
 ·rw[errOf_ne h] at k1
  exact Two.err _ (poly_Compose.e4 _ _ _ k1) (linkworkref05_Compose.e0 _ _ _ k2 h)
theorem tScale(hp:ShP p)(hc:Lo c):Two 45 49 [polyPV p,c.pv]:=by
 have k1:=CPo.Check p (hp.fit (by omega))
 have k2:=CRe.Check p (hp.fit (by omega))
 by_cases h:chk p=0
 ·have s:=hp.s5 h
  have ls:=s.len
  have hc':=hc.ht
  have h1:=PQ.ScaleA (vals p) c ⟨hc.1,hc.2.1⟩ s.zp (by omega) s.fl (by omega) (by omega)
  have h2:=RQ.ScaleA (vals p) c ⟨hc.1,hc.2.1⟩ s.zp (by omega) s.fl (by omega) (by omega)
  rw[s.pv] at h1 h2
  refine Two.ok _ h1 h2 ?_ ?_
  ·have:=len_trimL (smulL c.val (vals p));rw[len_smulL] at this;omega
  ·exact fl_trimL (fl_mono (fl_smulL s.fl) (by omega))
 ·rw[errOf_ne h] at k1
  exact Two.err _ (poly_Scale.e1 _ _ _ k1) (linkworkref05_Scale.e0 _ _ _ k2 h)
theorem PolyComputes(p q:List ARat)(c:ARat){A B C:Prop}(_:A)(_:B)(_:C):Contract prg 9 [polyPV p,polyPV q,c.pv] (vB true):=by
 obtain⟨b1,h1,g1⟩:=short [p,q,[c]] (by simp)
 cases b1 with
 |false=>exact linkworklaw05_PolyComputes.e0 p q c _ _ h1 rfl awake
 |true =>
  have hp:=g1 rfl p (by simp)
  have hq:=g1 rfl q (by simp)
  have hc:Lo c:=(g1 rfl [c] (by simp)).2 c (by simp)
  obtain⟨a,ae,a1,a2,a3,a4⟩:=tAdd hp hq
  obtain⟨b,be,b1,b2,b3,b4⟩:=tSub hp hq
  obtain⟨m,me,m1,m2,m3,m4⟩:=tMul hp hq
  obtain⟨s,se,s1,s2,s3,s4⟩:=tScale hp hc
  by_cases k1:5<p.length
  ·exact linkworklaw05_PolyComputes.e2 p q c _ _ _ ae _ be _ me _ se _ _ _ _ _ _ _ _ _ _ _ _ _ _ _ _ h1 rfl awake rfl a1 b1 m1 s1 a2 b2 m2 s2 (CBa.Num ae) rfl (same a a3 a4) rfl (CBa.Num be) rfl (same b b3 b4) rfl (CBa.Num me) rfl (same m m3 m4) rfl (CBa.Num se) rfl (same s s3 s4) rfl k1
  ·by_cases k2:5<q.length
   ·exact linkworklaw05_PolyComputes.e3 p q c _ _ _ ae _ be _ me _ se _ _ _ _ _ _ _ _ _ _ _ _ _ _ _ _ h1 rfl awake rfl a1 b1 m1 s1 a2 b2 m2 s2 (CBa.Num ae) rfl (same a a3 a4) rfl (CBa.Num be) rfl (same b b3 b4) rfl (CBa.Num me) rfl (same m m3 m4) rfl (CBa.Num se) rfl (same s s3 s4) rfl (by omega) k2
   ·obtain⟨k,ke,c1,c2,c3,c4⟩:=tCompose hp hq (by omega) (by omega)
    exact linkworklaw05_PolyComputes.e4 p q c _ _ _ ae _ be _ me _ se _ _ _ _ _ _ _ _ _ _ _ _ _ _ _ _ _ ke _ _ _ _ h1 rfl awake rfl a1 b1 m1 s1 a2 b2 m2 s2 (CBa.Num ae) rfl (same a a3 a4) rfl (CBa.Num be) rfl (same b b3 b4) rfl (CBa.Num me) rfl (same m m3 m4) rfl (CBa.Num se) rfl (same s s3 s4) rfl (by omega) (by omega) c1 c2 (CBa.Num ke) rfl (same k c3 c4)
end C05
end Go.Proofs.YtiahgkpihbchbaaGreatDoor.Sym
namespace Go.Proofs.YtiahgkpihbchbaaGreatDoor.Sym
open Go Go.RowKit Go.ChangeShapes Go.WideShapes Go.ChangeAt
set_option linter.unusedVariables false
namespace RowPolyComputes
theorem own:ownKnob Tryz.prog.godebug=none:=by kernel_rfl
theorem laid:laidOutB prg=true:=by kernel_rfl
theorem okArg{P:Program}{W:World}{base:Nat}{ps:Array TypeId}{args:Array Value}(hval:∀(j:Nat) t v,ps[j]? = some t→args[j]? = some v→Value.okWide P W .any base t v)(j:Nat){t:TypeId}{v:Value}(h1:ps[j]? = some t)(h2:args[j]? = some v):Value.okWide P W .any base t v:=hval j t v h1 h2
set_option maxRecDepth 100000 in
theorem contract(H:Type)(enc:TypeId×Value→H)(W:World)(base:Nat)(args:Array Value)(ds gs:List (DataW H))(before:List MemPlace)
  (hval:∀(j:Nat) t v,Tryz.f9.params[j]? = some t→args[j]? = some v→Value.okWide Tryz.prog W .any base t v)
  (hW:DataW.Whole enc Tryz.prog Tryz.f9.params.toList Rows.polyComputesSpec.vars false W args.toList ds gs before)
  (hz:(DataW.weightsEach Tryz.prog (Tryz.f9.params.toList++Rows.polyComputesSpec.plain.varTypes Tryz.prog) (ds++gs)).all (·≤reachBytes)=true) :
  Calls Tryz.prog 9 args W fun e W'=>∃v,e = .returned v∧Rows.polyComputesSpec.post enc Tryz.prog Tryz.f9 false true false false W args v W':=by
 have hW':=hW
 obtain⟨p,q,hA,hV,rfl,hfz,hnd⟩:=hW
 have hp:Tryz.f9.params = #[25,25,36]:=by kernel_rfl
 rw[hp] at hA hval hz
 obtain⟨v0,vs0,d0,ds0,p0,q0,hargs,rfl,rfl,h0,r0⟩:=trodAll_cons hA
 obtain⟨v1,vs1,d1,ds1,p1,q1,rfl,rfl,rfl,h1,r1⟩:=trodAll_cons r0
 obtain⟨v2,vs2,d2,ds2,p2,q2,rfl,rfl,rfl,h2,r2⟩:=trodAll_cons r1
 obtain⟨rfl,rfl,rfl⟩:=trodAll_nil r2
 obtain rfl:args = #[v0,v1,v2]:=by cases args;simp_all
 obtain⟨rfl,rfl⟩:=trodVars_none hV
 obtain⟨n0,hn0⟩:=h0
 have hw0:∀k∈d0.weights prg 25,k≤reachBytes:=by
  intro k hk
  have:=List.all_eq_true.1 hz k (DataW.weights_mem_each (j:=0) rfl rfl k hk)
  simpa using this
 obtain⟨x0,hx0,b0⟩:=opens_poly enc W 0 (fun _=>true) true n0 _ _ hn0 hw0
 obtain⟨ra0,rl0,rc0,rfl⟩:=okWide_slice (show Tryz.prog.underlying 25=some (.slice 36) by kernel_rfl) (okArg hval 0 (t:=25) (v:=v0) (by simp) (by simp))
 have hrd0:Rd (Old W) W (polyPV x0) (.slice ra0 rl0 rc0):=(hx0.2 0 _ _ rfl rfl).2
 obtain⟨n1,hn1⟩:=h1
 have hw1:∀k∈d1.weights prg 25,k≤reachBytes:=by
  intro k hk
  have:=List.all_eq_true.1 hz k (DataW.weights_mem_each (j:=1) rfl rfl k hk)
  simpa using this
 obtain⟨x1,hx1,b1⟩:=opens_poly enc W 0 (fun _=>true) true n1 _ _ hn1 hw1
 obtain⟨ra1,rl1,rc1,rfl⟩:=okWide_slice (show Tryz.prog.underlying 25=some (.slice 36) by kernel_rfl) (okArg hval 1 (t:=25) (v:=v1) (by simp) (by simp))
 have hrd1:Rd (Old W) W (polyPV x1) (.slice ra1 rl1 rc1):=(hx1.2 0 _ _ rfl rfl).2
 obtain⟨n2,hn2⟩:=h2
 have hw2:∀k∈d2.weights prg 36,k≤reachBytes:=by
  intro k hk
  have:=List.all_eq_true.1 hz k (DataW.weights_mem_each (j:=2) rfl rfl k hk)
  simpa using this
 obtain⟨x2,hx2,b2⟩:=opens_ARat enc W 0 (fun _=>true) true n2 _ _ hn2 hw2
 obtain⟨fs2,hu2,_⟩:=flds_spec (show fldsOf (prg.underlying 36)=some [(4,0),(34,1),(34,2)] by kernel_rfl)
 have hv2:Value.okWide Tryz.prog W .any base 36 v2:=okArg hval 2 (by simp) (by simp)
 have hrd2:Rd (Old W) W x2.pv v2:=rd_struct (P:=Tryz.prog) (cs:=x2.cells) hu2 hv2 hx2
 have hc:=C05.PolyComputes x0 x1 x2 b0 b1 (lenR_sum b2)
 refine(hc.2 (Old W) W (fun _=>none) #[.slice ra0 rl0 rc0,.slice ra1 rl1 rc1,v2] (fun b hb=>hb) ⟨(fun r sc h=>by cases h),(fun r r' b h=>by obtain⟨_,h⟩:=h)⟩ rfl ?_).mono ?_
 ·intro j e v he hv
  cases j with
  |zero=>simp at he hv;subst he hv;exact hrd0
  |succ j =>
   cases j with
   |zero=>simp at he hv;subst he hv;exact hrd1
   |succ j =>
    cases j with
    |zero=>simp at he hv;subst he hv;exact hrd2
    |succ j=>simp at he
 ·intro e W' ⟨v,β',he,_,hk,_,hv,_⟩
  subst he
  have hv:Rd _ W' (vB true) v:=hv
  cases hv
  have hk':Keeps (fun _=>False) W W':=⟨hk.os,hk.tape,hk.output,hk.size,fun k h1 _=>hk.block k h1 (fun ⟨y,hy,_⟩=>by obtain⟨_,hy⟩:=hy),hk.shape⟩
  refine⟨_,rfl,post_true (tb:=4) hW' hk' rfl (by kernel_rfl) (by kernel_rfl) rfl rfl rfl laid ?_⟩
  rw[hp]
  intro t ht
  have:t=25∨t=25∨t=36:=by simpa using ht
  rcases this with rfl|rfl|rfl
  all_goals exact⟨by kernel_rfl,of_decide_eq_true (by kernel_rfl)⟩
def tabCells:DataW Unit→Array Value
 |.agg l=>(l.map fun d=>match d with
  |.lit (.int k n)=>Value.int k n
  |_=>Value.nilIface).toArray
 |_ => #[]
def setTab(b:Nat)(d:DataW Unit)(h:Array Obj):Array Obj:=h.modify b fun
 |.cells _ t fr => .cells (tabCells d) t fr
 |o=>o
noncomputable def laidWorld(os:Os):World :=
 { World.holding Tryz.prog os ⟨#[],#[],[]⟩ with heap:=setTab 0 Rows.laid_internal_strconv_uint64pow10 (setTab 2 Rows.laid_math_bits_deBruijn32tab (setTab 3 Rows.laid_math_bits_deBruijn64tab (World.holding Tryz.prog os ⟨#[],#[],[]⟩).heap)) }
theorem laid_met(os:Os):laidMet Tryz.prog Rows.polyComputesRow.laid ((laidWorld os).forCall (fun _ _=>0) ⟨#[],#[.slice none 0 0,.slice none 0 0,.agg #[.bool false,.slice none 0 0,.slice none 0 0]],[]⟩).memory :=
 laidMet_of_run' 8 (by kernel_rfl) (by kernel_rfl)
theorem reads(os:Os){H:Type}(enc:TypeId×Value→H):(DataW.whole enc Tryz.prog ((laidWorld os).forCall (fun _ _=>0) ⟨#[],#[.slice none 0 0,.slice none 0 0,.agg #[.bool false,.slice none 0 0,.slice none 0 0]],[]⟩).memory Tryz.f9.params.toList Rows.polyComputesSpec.vars false (#[.slice none 0 0,.slice none 0 0,.agg #[.bool false,.slice none 0 0,.slice none 0 0]]:Array Value).toList 8).isSome=true:=by kernel_rfl
set_option maxRecDepth 100000 in
theorem lifted(os:Os)(started:os.Started)(H:Type)(enc:TypeId×Value→H)(F:Stop.Interp) :
  ReturnsInHanded {} Tryz.checked os 9 .any ((OpenSpec.ofChange Rows.polyComputesSpec).preRow enc Tryz.prog Tryz.f9 Rows.polyComputesRow.domain false Rows.polyComputesRow.laid) (((OpenSpec.ofChange Rows.polyComputesSpec).at F).post enc Tryz.prog Tryz.f9 false true false false):=by
 obtain⟨x,hx⟩:=Option.isSome_iff_exists.1 (reads os enc)
 refine returnsInHanded_of_row (C:=Tryz.checked) (s:=OpenSpec.ofChange Rows.polyComputesSpec) own started (by kernel_rfl) Tryz.func9
  (witness_row_at (enc:=enc) (C:=Tryz.checked) false (laidWorld os) #[.slice none 0 0,.slice none 0 0,.agg #[.bool false,.slice none 0 0,.slice none 0 0]] rfl (by kernel_rfl) (by kernel_rfl) (by kernel_rfl)
   (OpenSpec.preRow_of_cond 8 hx (by kernel_rfl) (fun k hk=>by cases hk) (by kernel_rfl) (laid_met os))) ?_
 intro W base args ds gs before hval hW _ _ hz hL _ _
 exact contract H enc W base args ds gs before hval hW hz
theorem j1:(Rows.polyComputesRow.inPlace==Tryz.prog.inPlace 9)=true:=by kernel_rfl
theorem j2:(Rows.polyComputesRow.unfollowed==Tryz.prog.unfollowed 9)=true:=by kernel_rfl
theorem j3:(Rows.polyComputesRow.recurses==Tryz.prog.recurses 9)=true:=by kernel_rfl
theorem j4:(Rows.polyComputesRow.named==Tryz.prog.varsNamed 9)=true:=by kernel_rfl
theorem closed:joinedFacts Tryz.prog 9 Tryz.f9 Rows.polyComputesSpec Rows.polyComputesRow=true:=by
 unfold joinedFacts
 rw[j1,j2,j3,j4]
 kernel_rfl
set_option maxRecDepth 100000 in
theorem said:Rows.PolyComputesSaid :=
 OpenClaim.holds_of_cond 9 Tryz.f9 rfl rfl rfl rfl rfl rfl rfl ⟨rfl,rfl,rfl,rfl,rfl⟩ rfl rfl rfl rfl rfl (by kernel_rfl) Tryz.func9 closed
  (of_decide_eq_true (by kernel_rfl)) (by unfold Func.isWrapper;first|(rw [if_pos (by decide +kernel)];kernel_rfl)|(rw [if_neg (by decide +kernel)];exact⟨rfl,rfl⟩))
  (fun os started H enc _ F=>by rw[OpenClaim.pre_eq_preRow];exact lifted os started H enc F)
theorem plainL(f:FuncId)(fn:Func)(hf:Tryz.pinned.checked.prog.funcNamed Rows.polyComputesRow.func=some f)(hfn:Tryz.pinned.checked.prog.funcs[f]? = some fn) :
  true=Tryz.pinned.checked.prog.looks []∧∀(j:Nat) t,fn.params[j]? = some t→Tryz.pinned.checked.prog.wantsStandIn t=false:=by
 obtain rfl:f=9:=Option.some.inj ((show Tryz.prog.funcNamed Rows.polyComputesRow.func=some 9 by kernel_rfl).symm.trans hf) |>.symm
 obtain rfl:fn=Tryz.f9:=(Option.some.inj (Tryz.func9.symm.trans hfn)).symm
 refine⟨by kernel_rfl,fun j t ht => ?_⟩
 have hp:Tryz.f9.params = #[25,25,36]:=by kernel_rfl
 rw[hp] at ht
 have:t=25∨t=25∨t=36:=by simpa using Array.mem_of_getElem? ht
 rcases this with rfl|rfl|rfl
 all_goals exact(show Tryz.prog.wantsStandIn _=false by kernel_rfl)
theorem proved:Rows.PolyComputesCardSaid :=
 Claim7.holds_tied_plain_at .later [] _ _ _ _ said (fun _ h=>by cases h) (by kernel_rfl) (fun _ h=>by cases h) polyComputes_row_tie rfl ⟨rfl,rfl⟩ (by kernel_rfl) rfl plainL (by kernel_rfl)
end RowPolyComputes
end Go.Proofs.YtiahgkpihbchbaaGreatDoor.Sym
