/- Lemmas for the statements of this seat. -/
import Derived.Test.YtcpnocgollpbhaaGreatDoorG3
import Derived.Test.YtcpnocgollpbhaaGreatDoorP2
import Derived.Test.YtcpnocgollpbhaaGreatDoorP3
import Derived.Test.YtcpnocgollpbhaaGreatDoorG2
noncomputable section
namespace Go.Proofs.YtcpnocgollpbhaaGreatDoor.Sym
open Go Path cF
set_option linter.unusedVariables false
def Dy(a w:Rat)(k:Nat)(lo hi:Rat):Prop:=(∃j,j<2^k∧lo=ptQ a w k j∧hi=ptQ a w k (j+1))∨(lo=hi∧∃j,j≤2^k∧lo=ptQ a w k j)
theorem Dy.start(lo hi:Rat):Dy lo (hi-lo) 0 lo hi:=Or.inl ⟨0,by decide,(nK _ _).1.symm,by have:=(nK lo (hi-lo)).2;rw[this];grind⟩
theorem Dy.ht{a w lo hi:Rat}{k:Nat}(h:Dy a w k lo hi):Sym.ht lo≤Sym.ht a+Sym.ht w+k/32+4∧Sym.ht hi≤Sym.ht a+Sym.ht w+k/32+4:=by
 rcases h with ⟨j,h1,rfl,rfl⟩|⟨rfl,j,h1,rfl⟩
 ·exact⟨sL a w (by omega),sL a w (by omega)⟩
 ·exact⟨sL a w h1,sL a w h1⟩
theorem Dy.pK{a w lo hi:Rat}{k:Nat}(h:Dy a w k lo hi)(et:lo≠hi):Sym.ht (midQ lo hi)≤Sym.ht a+Sym.ht w+(k+1)/32+4:=by
 rcases h with ⟨j,h1,rfl,rfl⟩|⟨e,_⟩
 ·unfold midQ;rw[Kv];exact sL a w (by rw[agb];omega)
 ·exact absurd e et
theorem Dy.half{a w lo hi:Rat}{k:Nat}(f:List Rat)(h:Dy a w k lo hi):Dy a w (k+1) (gO f lo hi).1 (gO f lo hi).2:=by
 unfold gO;by_cases he:lo=hi
 ·rw[ag9 he];right;refine⟨he,?_⟩;rcases h with ⟨j,h1,h2,h3⟩|⟨_,j,h1,h2⟩
  ·exact⟨2*j,by rw[agb];omega,by rw[hO];exact h2⟩
  ·exact⟨2*j,by rw[agb];omega,by rw[hO];exact h2⟩
 ·rw[ag7 he];rcases h with ⟨j,h1,rfl,rfl⟩|⟨e,_⟩
  ·have hm:midQ (ptQ a w k j) (ptQ a w k (j+1))=ptQ a w (k+1) (2*j+1):=by unfold midQ;rw[Kv]
   have hp:2^(k+1)=2^k*2:=agb ..;rw[hm];split
   ·exact Or.inr ⟨rfl,2*j+1,by omega,rfl⟩
   ·split
    ·exact Or.inl ⟨2*j+1,by omega,rfl,by rw[show 2*j+1+1=2*(j+1) by omega,hO]⟩
    ·exact Or.inl ⟨2*j,by omega,by rw[hO],rfl⟩
  ·exact absurd e he
def om(f g:List Rat):Nat→Rat→Rat→Rat→Rat→Option ((Rat×Rat)×(Rat×Rat))
 |0,_,_,_,_=>none
 |n+1,lo,hi,lo',hi'=>if lo'<hi∧lo<hi' then om f g n (gO f lo hi).1 (gO f lo hi).2 (gO g lo' hi').1 (gO g lo' hi').2 else some ((lo,hi),(lo',hi'))
theorem apart_spec{f g:List Rat} : ∀(n:Nat) (lo hi lo' hi':Rat) (r:(Rat×Rat)×(Rat×Rat)),rC f lo hi→rC g lo' hi'→om f g n lo hi lo' hi'=some r →
  rC f r.1.1 r.1.2∧rC g r.2.1 r.2.2∧(∀x,ep f r.1.1 r.1.2 x=ep f lo hi x)∧(∀x,ep g r.2.1 r.2.2 x=ep g lo' hi' x)∧(r.1.2≤r.2.1∨r.2.2≤r.1.1)
 |0,_,_,_,_,_,_,_,h=>by cases h
 |n+1,lo,hi,lo',hi',r,A,B,h=>by
  rw[om] at h;split at h
  ·obtain⟨a1,a2, -⟩:=pE A;obtain⟨b1,b2, -⟩:=pE B;obtain⟨k1,k2,k3,k4,k5⟩:=apart_spec n _ _ _ _ r a1 b1 h;exact⟨k1,k2,fun x=>by rw[k3,a2],fun x=>by rw[k4,b2],k5⟩
  ·rename_i hn;injection h with h
   subst h;refine⟨A,B,fun _=>rfl,fun _=>rfl,?_⟩;by_cases h1:lo'<hi
   ·right;show hi'≤lo;grind
   ·left;show hi≤lo';grind
def Se(f g:List Rat)(n:Nat)(lo hi lo' hi':Rat):Option Int :=
 bif wM.VG f lo hi g lo' hi' then some 0 else match om f g n lo hi lo' hi' with
  |some r=>some (if midQ r.1.1 r.1.2<midQ r.2.1 r.2.2 then -1 else 1)
  |none=>none
namespace wM
theorem P4{b L:Nat}{f:List Rat}{lo hi a w:Rat}{k:Nat}(F:Ky b L f)(A:rC f lo hi)(D:Dy a w k lo hi)(hh:ht a+ht w+(k+1)/32+4≤1073741824):Cp 178 [(fv f lo hi).pv] (.aF [(fv f (gO f lo hi).1 (gO f lo hi).2).pv,.ay]):=by
 obtain⟨h1,h2⟩:=D.ht;have O:=F.ok (lo:=lo) (hi:=hi) (by omega) (by omega);by_cases he:lo=hi
 ·have c1:=QF.xG lo hi (by omega) (by omega);have e:gO f lo hi=(lo,hi):=by unfold gO;rw[ag9 he]
  rw[e];exact gB.e0 (fv f lo hi) _ c1 (hJ.2 he)
 ·exact Ig O A.le (by have:=D.pK he;omega)
theorem apart{b L:Nat}{f g:List Rat}{a w a' w':Rat}{K:Nat}(F:Ky b L f)(G:Ky b L g)(h1:ht a+ht w+K/32+4≤1073741824)(h2:ht a'+ht w'+K/32+4≤1073741824):∀(n k:Nat) (lo hi lo' hi':Rat) (r:(Rat×Rat)×(Rat×Rat)),n+k≤K+1→rC f lo hi→rC g lo' hi'→Dy a w k lo hi→Dy a' w' k lo' hi'→om f g n lo hi lo' hi'=some r →
  cG.ai (fv f lo hi) (fv g lo' hi') (.aF [(fv f r.1.1 r.1.2).pv,(fv g r.2.1 r.2.2).pv,.ay])∧ht (midQ r.1.1 r.1.2)≤4294967296∧ht (midQ r.2.1 r.2.2)≤4294967296∧ht r.1.1≤1073741824∧ht r.1.2≤1073741824∧ht r.2.1≤1073741824∧ht r.2.2≤1073741824
 |0,_,_,_,_,_,_,_,_,_,_,_,h=>by cases h
 |n+1,k,lo,hi,lo',hi',r,hn,A,B,D,E,h=>by
  obtain⟨d1,d2⟩:=D.ht;obtain⟨e1,e2⟩:=E.ht;have c1:=QF.xG hi lo' (by omega) (by omega);have c2:=QF.xG hi' lo (by omega) (by omega);rw[om] at h;split at h
  ·rename_i bH
   match n,h with
   |0,h=>cases h
   |n+1,h =>have a1:=pE A;have b1:=pE B;obtain⟨g1,g2⟩:=apart F G h1 h2 (n+1) (k+1) _ _ _ _ r (by omega) a1.1 b1.1 (D.half f) (E.half g) h;exact⟨cG.l10 (fv f lo hi) (fv g lo' hi') _ _ _ _ c1 (by rw[pD bH.1];omega) c2 (by rw[pD bH.2];omega) (P4 F A D (by omega)) (P4 G B E (by omega)) g1,g2⟩
  ·rename_i Ej;injection h with h
   subst h;have mh:∀x y:Rat,ht x≤1073741824→ht y≤1073741824→ht (midQ x y)≤4294967296:=fun x y hx hy=>by
    unfold midQ;have s1:=wk x y;have s2:=pA (Rat.divInt 1 2) (x+y);have s3:ht (Rat.divInt 1 2)=1:=by decide +kernel
    omega
   refine⟨?_,mh lo hi (by omega) (by omega),mh lo' hi' (by omega) (by omega),(show ht lo≤1073741824 by omega),(show ht hi≤1073741824 by omega),(show ht lo'≤1073741824 by omega),(show ht hi'≤1073741824 by omega)⟩;by_cases k1:lo'<hi
   ·exact cG.uA (fv f lo hi) (fv g lo' hi') _ _ c1 (by rw[pD k1];omega) c2 (by rcases jg hi' lo with k|k|k<;>first|omega|(exfalso;exact Ej ⟨k1,k.1⟩))
   ·exact cG.Dp (fv f lo hi) (fv g lo' hi') _ c1 (by rcases jg hi lo' with k|k|k<;>first|omega|(exfalso;exact k1 k.1))
theorem cmp{b L:Nat}{f g:List Rat}{lo hi lo' hi':Rat}{K:Nat}{s:Int}(F:Ky b L f)(G:Ky b L g)(A:rC f lo hi)(B:rC g lo' hi')(h1:ht lo+ht (hi-lo)+K/32+4≤1073741824)(h2:ht lo'+ht (hi'-lo')+K/32+4≤1073741824)(h:Se f g (K+1) lo hi lo' hi'=some s) :
  Cp 65 [(fv f lo hi).pv,(fv g lo' hi').pv] (.aF [vI s,.ay]):=by
 obtain⟨d1,d2⟩:=(Dy.start lo hi).ht;obtain⟨e1,e2⟩:=(Dy.start lo' hi').ht;have he:=equal F G A.f0 A.le (lo:=lo) (hi:=hi) (lo':=lo') (hi':=hi') (by omega) (by omega) (by omega) (by omega);unfold Se at h;cases hb:VG f lo hi g lo' hi' with
 |true =>rw[hb] at he h;have hs:s=0:=(ajo h).symm;rw[hs];exact kR.e0 (fv f lo hi) (fv g lo' hi') _ he rfl
 |false =>
  rw[hb] at he h;rw[agf] at h;cases hr:om f g (K+1) lo hi lo' hi' with
  |none=>rw[hr] at h;cases h
  |some r =>
   rw[hr] at h;have h:=ajo h;obtain⟨k1,k2, -⟩:=apart_spec _ lo hi lo' hi' r A B hr;obtain⟨g1,g2,g3,g4,g5,g6,g7⟩:=apart F G h1 h2 (K+1) 0 lo hi lo' hi' r (by omega) A B (Dy.start lo hi) (Dy.start lo' hi') hr;have ga:=cG.e0 (fv f lo hi) (fv g lo' hi') g1;have m1:=Ha.Wm r.1.1 r.1.2 g4 g5 k1.le;have m2:=Ha.Wm r.2.1 r.2.2 g6 g7 k2.le;have c:=QF.xG (midQ r.1.1 r.1.2) (midQ r.2.1 r.2.2) (by omega) (by omega);by_cases bH:midQ r.1.1 r.1.2<midQ r.2.1 r.2.2
   ·rw[ag9 bH] at h;subst h;exact kR.e1 (fv f lo hi) (fv g lo' hi') _ (fv f r.1.1 r.1.2) (fv g r.2.1 r.2.2) _ _ _ he rfl ga m1 m2 c (by rw[ub bH];omega)
   ·rw[ag7 bH] at h;subst h;exact kR.e2 (fv f lo hi) (fv g lo' hi') _ (fv f r.1.1 r.1.2) (fv g r.2.1 r.2.2) _ _ _ he rfl ga m1 m2 c (by rcases jg (midQ r.1.1 r.1.2) (midQ r.2.1 r.2.2) with k|k|k<;>first|omega|(exfalso;exact bH k.1))
end wM
end Go.Proofs.YtcpnocgollpbhaaGreatDoor.Sym
namespace Go.Proofs.YtcpnocgollpbhaaGreatDoor.Sym
set_option linter.unusedVariables false
structure kB where
 f:Nat→Rat
 h:∀ε:Rat,0<ε→∃N,∀m n,N≤m→N≤n→f m-f n≤ε
namespace kB
theorem ext{a b:kB}(h:∀n,a.f n=b.f n):a=b:=by cases a;cases b;have:(fun n=>_)=(fun n=>_):=funext h;simp only[kB.mk.injEq];exact this
theorem Tp(a:kB):∃B:Rat,0<B∧∃N,∀n,N≤n→a.f n≤B ∧ -B≤a.f n:=by
 obtain⟨N,hN⟩:=a.h 1 (by decide);by_cases h0:0≤a.f N
 ·exact⟨a.f N+2,by grind,N,fun n hn=>by have h1:=hN n N hn (afY _);have h2:=hN N n (afY _) hn;grind⟩
 ·exact⟨-(a.f N)+2,by grind,N,fun n hn=>by have h1:=hN n N hn (afY _);have h2:=hN N n (afY _) hn;grind⟩
theorem half{ε:Rat}(h:0<ε):0<ε/2∧ε/2+ε/2=ε:=by
 have e:ε/2+ε/2=ε:=by grind
 exact⟨by grind,e⟩
def le(a b:kB):Prop:=∀ε:Rat,0<ε→∃N,∀n,N≤n→a.f n-b.f n≤ε
theorem le_refl(a:kB):le a a:=fun ε h=>⟨0,fun n _=>by grind⟩
theorem le_trans{a b c:kB}(h1:le a b)(h2:le b c):le a c:=fun ε h=>by obtain⟨p,q⟩:=half h;obtain⟨N,hN⟩:=h1 _ p;obtain⟨M,hM⟩:=h2 _ p;exact⟨max N M,fun n hn=>by have:=hN n (by omega);have:=hM n (by omega);grind⟩
theorem le_total(a b:kB):le a b∨le b a:=by
 by_cases h:le a b
 ·exact .inl h
 ·right;unfold le at h;have h:∃ε:Rat,0<ε∧∀N,∃n,N≤n∧ε<a.f n-b.f n:=by
   apply afV;intro hn;apply h;intro ε hε;apply afV;intro hm;apply hn;refine⟨ε,hε,fun N => ?_⟩;apply afV;intro hk;apply hm;refine⟨N,fun n hn => ?_⟩;apply afV;intro hl;exact hk ⟨n,hn,by grind⟩
  obtain⟨ε,hε,hx⟩:=h;obtain⟨p,q⟩:=half hε;obtain⟨N,hN⟩:=a.h _ p;obtain⟨M,hM⟩:=b.h _ p;obtain⟨k,hk,hkx⟩:=hx (max N M);intro δ hδ;refine⟨max N M,fun n hn => ?_⟩;have h1:=hN k n (by omega) (by omega);have h2:=hM n k (by omega) (by omega);grind
instance setoid:Setoid kB where
 r a b:=le a b∧le b a
 iseqv:=⟨fun a=>⟨le_refl a,le_refl a⟩,fun h=>⟨h.2,h.1⟩,fun h k=>⟨le_trans h.1 k.1,le_trans k.2 h.2⟩⟩
def const(q:Rat):kB:=⟨fun _=>q,fun ε h=>⟨0,fun _ _ _ _=>by grind⟩⟩
def add(a b:kB):kB:=⟨fun n=>a.f n+b.f n,fun ε h=>by obtain⟨p,q⟩:=half h;obtain⟨N,hN⟩:=a.h _ p;obtain⟨M,hM⟩:=b.h _ p;exact⟨max N M,fun m n hm hn=>by have:=hN m n (by omega) (by omega);have:=hM m n (by omega) (by omega);grind⟩⟩
def neg(a:kB):kB:=⟨fun n => -(a.f n),fun ε h=>by obtain⟨N,hN⟩:=a.h _ h;exact⟨N,fun m n hm hn=>by have:=hN n m hn hm;grind⟩⟩
theorem LW{x u y v A B d e:Rat}(hA:x≤A ∧ -A≤x)(hB:v≤B ∧ -B≤v)(QQ:0<A)(QS:0<B)(h1:y-v≤e)(sQ:v-y≤e)(h2:x-u≤d)(Ww:u-x≤d):x*y-u*v≤A*e+B*d:=by
 have key:∀{s t S T:Rat},s≤S → -S≤s→0<S→t≤T → -t≤T→s*t≤S*T:=by
  intro s t S T k1 k2 k3 k4 k5;by_cases h:0≤t
  ·have a1:=ag1 k1 h;have a2:=ag5 k4 (age k3);grind
  ·have a1:=ag1 (show -s≤S by grind) (show 0 ≤ -t by grind);have a2:=ag5 k5 (age k3);grind
 have e1:x*y-u*v=x*(y-v)+v*(x-u):=by grind
 have a1:=key hA.1 hA.2 QQ h1 (by grind);have a2:=key hB.1 hB.2 QS h2 (by grind);rw[e1];grind
theorem scaled{A ε:Rat}(hA:0<A)(h:0<ε):∃δ:Rat,0<δ∧A*δ≤ε/2:=by
 refine⟨(ε/2)/A,?_,?_⟩
 ·rw[ahs];exact ahH (half h).1 (Rat.inv_pos.2 hA)
 ·rw[ahs,Rat.mul_comm (ε/2),←ajh,Rat.mul_inv_cancel _ (by grind),aht];exact ag2
def mul(a b:kB):kB:=⟨fun n=>a.f n*b.f n,fun ε h=>by obtain⟨A,QQ,NA,hA⟩:=a.Tp;obtain⟨B,QS,NB,hB⟩:=b.Tp;obtain⟨e,Wn,he⟩:=scaled QQ h;obtain⟨d,Iy,hd⟩:=scaled QS h;obtain⟨N,hN⟩:=a.h _ Iy;obtain⟨M,hM⟩:=b.h _ Wn;refine⟨max (max NA NB) (max N M),fun m n hm hn => ?_⟩;have:=LW (hA m (by omega)) (hB n (by omega)) QQ QS (hM m n (by omega) (by omega)) (hM n m (by omega) (by omega)) (hN m n (by omega) (by omega)) (hN n m (by omega) (by omega));have:=(half h).2;grind⟩
theorem rE{a b c d:kB}(h1:le a b)(h2:le c d):le (add a c) (add b d):=fun ε h=>by obtain⟨p,q⟩:=half h;obtain⟨N,hN⟩:=h1 _ p;obtain⟨M,hM⟩:=h2 _ p;refine⟨max N M,fun n hn => ?_⟩;have:=hN n (by omega);have:=hM n (by omega);show a.f n+c.f n-(b.f n+d.f n)≤ε;grind
theorem IM{a b:kB}(h1:le a b):le (neg b) (neg a):=fun ε h=>by obtain⟨N,hN⟩:=h1 _ h;refine⟨N,fun n hn => ?_⟩;have:=hN n hn;show -(b.f n) - -(a.f n)≤ε;grind
theorem EY{a b c d:kB}(h1:le a b∧le b a)(h2:le c d∧le d c):le (mul a c) (mul b d):=fun ε h=>by obtain⟨A,QQ,NA,hA⟩:=a.Tp;obtain⟨B,QS,NB,hB⟩:=d.Tp;obtain⟨e,Wn,he⟩:=scaled QQ h;obtain⟨δ,Iy,hd⟩:=scaled QS h;obtain⟨N1,hN1⟩:=h1.1 _ Iy;obtain⟨N2,hN2⟩:=h1.2 _ Iy;obtain⟨M1,hM1⟩:=h2.1 _ Wn;obtain⟨M2,hM2⟩:=h2.2 _ Wn;refine⟨max (max NA NB) (max (max N1 N2) (max M1 M2)),fun n hn => ?_⟩;have:=LW (hA n (by omega)) (hB n (by omega)) QQ QS (hM1 n (by omega)) (hM2 n (by omega)) (hN1 n (by omega)) (hN2 n (by omega));have:=(half h).2;show a.f n*c.f n-b.f n*d.f n≤ε;grind
theorem lH{a b:kB}(h1:le (const 0) a)(h2:le (const 0) b):le (const 0) (mul a b):=fun ε h=>by
 obtain⟨A,QQ,NA,hA⟩:=a.Tp;obtain⟨B,QS,NB,hB⟩:=b.Tp;obtain⟨e,Wn,he⟩:=scaled QQ h;obtain⟨d,Iy,hd⟩:=scaled QS h;obtain⟨N,hN⟩:=h1 _ Iy;obtain⟨M,hM⟩:=h2 _ Wn;refine⟨max (max NA NB) (max N M),fun n hn => ?_⟩;have x1:=hN n (by omega);have y1:=hM n (by omega);have x2:=hA n (by omega);have y2:=hB n (by omega);have x1:0-a.f n≤d:=x1;have y1:0-b.f n≤e:=y1;show 0-a.f n*b.f n≤ε;have:=(half h).2;by_cases ha:0≤a.f n
 ·by_cases hb:0≤b.f n
  ·have:=agP ha hb;grind
  ·have k1:=ag1 x2.1 (show 0 ≤ -(b.f n) by grind);have k2:=ag5 (show -(b.f n)≤e by grind) (age QQ);grind
 ·by_cases hb:0≤b.f n
  ·have k1:=ag1 y2.1 (show 0 ≤ -(a.f n) by grind);have k2:=ag5 (show -(a.f n)≤d by grind) (age QS);grind
  ·have:=agP (show 0 ≤ -(a.f n) by grind) (show 0 ≤ -(b.f n) by grind);grind
end kB
def R:Type:=Quotient kB.setoid
namespace R
def mk(a:kB):R:=Quotient.mk kB.setoid a
def ofQ(q:Rat):R:=mk (kB.const q)
def add:R→R→R:=Quotient.lift₂ (fun a b=>mk (kB.add a b)) (fun a b c d h k=>aj7 ⟨kB.rE h.1 k.1,kB.rE h.2 k.2⟩)
def neg:R→R:=Quotient.lift (fun a=>mk (kB.neg a)) (fun a b h=>aj7 ⟨kB.IM h.2,kB.IM h.1⟩)
def mul:R→R→R:=Quotient.lift₂ (fun a b=>mk (kB.mul a b)) (fun a b c d h k=>aj7 ⟨kB.EY h k,kB.EY ⟨h.2,h.1⟩ ⟨k.2,k.1⟩⟩)
def le:R→R→Prop:=Quotient.lift₂ (fun a b=>kB.le a b) (fun a b c d h k=>propext ⟨fun x=>kB.le_trans h.2 (kB.le_trans x k.1),fun x=>kB.le_trans h.1 (kB.le_trans x k.2)⟩)
instance:Add R:=⟨add⟩
instance:Neg R:=⟨neg⟩
instance:Mul R:=⟨mul⟩
instance:Sub R:=⟨fun a b=>add a (neg b)⟩
instance:LE R:=⟨le⟩
instance:LT R:=⟨fun a b=>a≤b∧¬b≤a⟩
instance (n:Nat):OfNat R n:=⟨ofQ (n:Rat)⟩
instance:NatCast R:=⟨fun n=>ofQ (n:Rat)⟩
instance:IntCast R:=⟨fun n=>ofQ (n:Rat)⟩
instance:SMul Nat R:=⟨fun n a=>mul (ofQ (n:Rat)) a⟩
instance:SMul Int R:=⟨fun n a=>mul (ofQ (n:Rat)) a⟩
def pow(a:R):Nat→R
 |0=>1
 |n+1=>mul (pow a n) a
instance:HPow R Nat R:=⟨pow⟩
theorem vy{a b:kB}(h:∀n,a.f n=b.f n):mk a=mk b:=ah8 mk (kB.ext h)
theorem j7{p:R→Prop}(h:∀a,p (mk a)):∀x,p x:=fun x=>Quotient.ind h x
theorem oJ(p q:Rat):ofQ (p+q)=ofQ p+ofQ q:=rfl
theorem qD(p q:Rat):ofQ (p*q)=ofQ p*ofQ q:=rfl
theorem uP(p:Rat):ofQ (-p) = -ofQ p:=rfl
theorem Nb(a b:R):a+b=b+a:=by
 revert a b;refine j7 fun a=>j7 fun b => ?_
 exact vy fun n=>Rat.add_comm _ _
theorem oS(a b:R):a*b=b*a:=by
 revert a b;refine j7 fun a=>j7 fun b => ?_
 exact vy fun n=>Rat.mul_comm _ _
theorem Kz(a b c:R):a+b+c=a+(b+c):=by
 revert a b c;refine j7 fun a=>j7 fun b=>j7 fun c => ?_
 exact vy fun n=>Rat.add_assoc _ _ _
theorem KA(a b c:R):a*b*c=a*(b*c):=by
 revert a b c;refine j7 fun a=>j7 fun b=>j7 fun c => ?_
 exact vy fun n=>ajh _ _ _
theorem add_zero'(a:R):a+0=a:=by
 revert a;refine j7 fun a => ?_
 exact vy fun n=>ai4 _
theorem IN(a:R):a*1=a:=by
 revert a;refine j7 fun a => ?_
 exact vy fun n=>ajR _
theorem EZ(a:R):0*a=0:=by
 revert a;refine j7 fun a => ?_
 exact vy fun n=>agJ _
theorem IP(a b c:R):a*(b+c)=a*b+a*c:=by
 revert a b c;refine j7 fun a=>j7 fun b=>j7 fun c => ?_
 exact vy fun n=>Rat.mul_add _ _ _
theorem P5(a:R) : -a+a=0:=by
 revert a;refine j7 fun a => ?_
 exact vy fun n=>Rat.neg_add_cancel _
instance:Lean.Grind.CommRing R where
 add_zero:=add_zero'
 add_comm:=Nb
 add_assoc:=Kz
 mul_assoc:=KA
 mul_one:=IN
 mul_comm:=oS
 one_mul a:=by rw[oS];exact IN a
 left_distrib:=IP
 right_distrib a b c:=by rw[oS,IP,oS c,oS c]
 zero_mul:=EZ
 mul_zero a:=by rw[oS];exact EZ a
 pow_zero _:=rfl
 pow_succ _ _:=rfl
 ofNat_succ n:=ah8 ofQ (show ((n+1:Nat):Rat)=(n:Rat)+((1:Nat):Rat) from Rat.natCast_add n 1)
 ofNat_eq_natCast _:=rfl
 nsmul_eq_natCast_mul _ _:=rfl
 neg_add_cancel:=P5
 sub_eq_add_neg _ _:=rfl
 neg_zsmul i a:=by
  revert a;refine j7 fun a => ?_
  exact vy fun n=>by show((-i:Int):Rat)*a.f n = -((i:Rat)*a.f n);rw[ahl,Rat.neg_mul]
 zsmul_natCast_eq_nsmul _ _:=rfl
 intCast_ofNat _:=rfl
 intCast_neg i:=ah8 ofQ (ahl i)
theorem Nc(a b:R):a≤b∨b≤a:=by revert a b;refine j7 fun a=>j7 fun b=>kB.le_total a b
instance:Std.IsLinearOrder R where
 le_refl:=j7 fun a=>kB.le_refl a
 le_trans:=by
  refine j7 fun a=>j7 fun b=>j7 fun c => ?_
  exact fun h k=>kB.le_trans h k
 le_antisymm:=by
  refine j7 fun a=>j7 fun b => ?_
  exact fun h k=>aj7 ⟨h,k⟩
 le_total:=Nc
instance:Std.LawfulOrderLT R:=⟨fun _ _=>Iff.rfl⟩
theorem Nd:∀a b c:R,a≤b→a+c≤b+c:=by
 refine j7 fun a => ?_
 refine j7 fun b => ?_
 refine j7 fun c => ?_
 exact fun h=>kB.rE h (kB.le_refl c)
theorem Sf:∀a b:R,0≤a→0≤b→0≤a*b:=by
 refine j7 fun a => ?_
 refine j7 fun b => ?_
 exact fun h1 h2=>kB.lH h1 h2
theorem rE{a b:R}(c:R)(h:a≤b):a+c≤b+c:=Nd a b c h
theorem lH{a b:R}(h1:0≤a)(h2:0≤b):0≤a*b:=Sf a b h1 h2
theorem dm{p q:Rat} : ofQ p≤ofQ q↔p≤q:=by
 constructor
 ·intro h;have h:kB.le (kB.const p) (kB.const q):=h;apply afV;intro hn;obtain⟨a,b⟩:=kB.half (show 0<p-q by grind);obtain⟨N,hN⟩:=h _ a;have:p-q≤(p-q)/2:=hN N (afY _);grind
 ·intro h;show kB.le (kB.const p) (kB.const q);exact fun ε hε=>⟨0,fun _ _=>by show p-q≤ε;grind⟩
theorem Sg{a b:kB}(h:¬kB.le a b):∃ε:Rat,0<ε∧∃N,∀n,N≤n→ε≤a.f n-b.f n:=by
 have h:∃ε:Rat,0<ε∧∀N,∃n,N≤n∧ε<a.f n-b.f n:=by apply afV;intro hn;apply h;intro ε hε;apply afV;intro hm;apply hn;refine⟨ε,hε,fun N => ?_⟩;apply afV;intro hk;apply hm;refine⟨N,fun n hn => ?_⟩;apply afV;intro hl;exact hk ⟨n,hn,by grind⟩
 obtain⟨ε,hε,hx⟩:=h;obtain⟨p,q⟩:=kB.half (show 0<ε/2 from(kB.half hε).1);obtain⟨N,hN⟩:=a.h _ p;obtain⟨M,hM⟩:=b.h _ p;obtain⟨k,hk,hkx⟩:=hx (max N M);refine⟨ε/2,(kB.half hε).1,max N M,fun n hn => ?_⟩;have h1:=hN k n (by omega) (by omega);have h2:=hM n k (by omega) (by omega);grind
theorem VH:∀x:R,0<x→∃q:Rat,0<q∧ofQ q≤x:=by
 refine j7 fun a h => ?_
 obtain⟨ε,h1,N,hN⟩:=Sg (a:=a) (b:=kB.const 0) h.2;refine⟨ε,h1,fun δ hδ=>⟨N,fun n hn => ?_⟩⟩;have:=hN n hn;have:ε≤a.f n-0:=this;show ε-a.f n≤δ;grind
theorem IQ{x:R}(h:0<x):∃q:Rat,0<q∧ofQ q≤x:=VH x h
theorem jh{q:Rat} : (0:R)<ofQ q↔0<q:=by
 constructor
 ·intro h;apply afV;intro hn;exact h.2 (dm.2 (show q≤0 by grind))
 ·intro h;exact⟨dm.2 (age h),fun h2=>by have:=dm.1 (show ofQ q≤ofQ 0 from h2);grind⟩
instance:Lean.Grind.OrderedAdd R where
 add_le_left_iff {a b} c:=by
  constructor
  ·exact rE c
  ·intro h;have:=rE (-c) h;have e1:a+c + -c=a:=by grind
   have e2:b+c + -c=b:=by grind
   rwa[e1,e2] at this
theorem mM{a b:R} : 0≤b-a↔a≤b:=by grind
theorem jC{a b:R} : ¬a≤b↔b<a:=by grind
theorem mul_pos{a b:R}(h1:0<a)(h2:0<b):0<a*b:=by
 obtain⟨p,p0,hp⟩:=IQ h1;obtain⟨q,q0,hq⟩:=IQ h2;have k1:=lH (mM.2 hp) (mM.2 hq);have k2:=lH (mM.2 hp) (jh.2 q0).1;have k3:=lH (jh.2 p0).1 (mM.2 hq);have e:a*b=(a-ofQ p)*(b-ofQ q)+(a-ofQ p)*ofQ q+ofQ p*(b-ofQ q)+ofQ (p*q):=by rw[qD];grind
 have Ro:(0:R)<ofQ (p*q):=jh.2 (ahH p0 q0);generalize (a-ofQ p)*(b-ofQ q)=x at k1 e;generalize (a-ofQ p)*ofQ q=y at k2 e;generalize ofQ p*(b-ofQ q)=z at k3 e;rw[e];grind
instance:Lean.Grind.OrderedRing R where
 zero_lt_one:=jh.2 (by decide)
 mul_lt_mul_of_pos_left {a b c} h1 h2:=by
  have h4:=mul_pos h2 (show 0<b-a by grind);have e:c*(b-a)=c*b-c*a:=by grind
  rw[e] at h4;grind
 mul_lt_mul_of_pos_right {a b c} h1 h2:=by
  have h4:=mul_pos h2 (show 0<b-a by grind);have e:c*(b-a)=b*c-a*c:=by grind
  rw[e] at h4;grind
theorem kK{p q:Rat} : ofQ p<ofQ q↔p<q:=by rw[←jC,dm];grind
theorem xT{p q:Rat}(h:ofQ p=ofQ q):p=q:=by have h1:=dm.1 (show ofQ p≤ofQ q by rw[h];exact aiA _);have h2:=dm.1 (show ofQ q≤ofQ p by rw[h];exact aiA _);grind
theorem GI(p q:Rat):ofQ (p-q)=ofQ p-ofQ q:=by rw[show p-q=p + -q by grind,oJ,uP];grind
theorem eg:ofQ 0=0:=rfl
theorem uQ:ofQ 1=1:=rfl
theorem CY:∀x:R,∃B:Rat,0<B∧x≤ofQ B∧ofQ (-B)≤x:=by
 refine j7 fun a => ?_
 obtain⟨B,hB,N,hN⟩:=a.Tp;refine⟨B,hB,fun ε hε=>⟨N,fun n hn => ?_⟩,fun ε hε=>⟨N,fun n hn => ?_⟩⟩
 ·have:=(hN n hn).1;show a.f n-B≤ε;grind
 ·have:=(hN n hn).2;show -B-a.f n≤ε;grind
theorem XP:∀(x:R) (ε:Rat),0<ε→∃q:Rat,x≤ofQ (q+ε)∧ofQ (q-ε)≤x:=by
 refine j7 fun a ε hε => ?_
 obtain⟨N,hN⟩:=a.h ε hε;refine⟨a.f N,fun δ hδ=>⟨N,fun n hn => ?_⟩,fun δ hδ=>⟨N,fun n hn => ?_⟩⟩
 ·have:=hN n N hn (afY _);show a.f n-(a.f N+ε)≤δ;grind
 ·have:=hN N n (afY _) hn;show(a.f N-ε)-a.f n≤δ;grind
theorem nL{x y:R}(h:x<y):∃q:Rat,x<ofQ q∧ofQ q<y:=by
 obtain⟨e,e0,he⟩:=IQ (show 0<y-x by grind);obtain⟨q,h1,h2⟩:=XP x (e/4) (by grind);refine⟨q+e/2,?_,?_⟩
 ·have:ofQ (q+e/4)<ofQ (q+e/2):=kK.2 (by grind);grind
 ·have:ofQ (q+e/2)<ofQ (q-e/4)+ofQ e:=by rw[←oJ];exact kK.2 (by grind)
  grind
end R
open kB
theorem XQ(x:Rat):∃N:Nat,x≤(N:Rat):=by refine⟨(x.floor+1).natAbs,?_⟩;have h1:x<((x.floor+1:Int):Rat):=Rat.lt_floor_add_one x;have h2:x.floor+1≤((x.floor+1).natAbs:Int):=Int.le_natAbs;have h3:((x.floor+1:Int):Rat)≤(((x.floor+1).natAbs:Int):Rat):=agw.2 h2;have h4:(((x.floor+1).natAbs:Int):Rat)=(((x.floor+1).natAbs:Nat):Rat):=rfl;rw[←h4];grind
def dn(n:Nat):Rat:=1/((n:Rat)+1)
theorem P6(n:Nat):dn n*((n:Rat)+1)=1:=by
 unfold dn;have h4:(0:Rat)≤(n:Rat):=by exact_mod_cast ago _
 rw[agj (by grind)]
theorem zd(n:Nat):0<dn n:=by
 have h4:(0:Rat)≤(n:Rat):=by exact_mod_cast ago _
 have e:=P6 n;apply afV;intro h;have:=ag1 (show dn n≤0 by grind) (show 0≤(n:Rat)+1 by grind);grind
theorem IS{ε:Rat}(h:0<ε):∃N,∀n,N≤n→dn n≤ε:=by
 obtain⟨N,hN⟩:=XQ (1/ε);refine⟨N,fun n hn => ?_⟩;have e1:1/ε*ε=1:=agj (by grind);have h4:(N:Rat)≤(n:Rat):=by exact_mod_cast hn
 have h5:(0:Rat)≤(n:Rat):=by exact_mod_cast ago _
 have h1:=ag1 (show 1/ε≤(n:Rat)+1 by grind) (age h);have h2:=ag5 h1 (age (zd n));have e2:=P6 n;have e3:dn n*(((n:Rat)+1)*ε)=ε:=by rw[←ajh,e2,aht]
 rw[e1,e3,ajR] at h2;exact h2
theorem IT{p:Nat→Prop}(h0:p 0):∀N,¬p N→∃n,p n∧¬p (n+1)
 |0,h=>absurd h0 h
 |N+1,h=>by
  by_cases k:p N
  ·exact⟨N,k,h⟩
  ·exact IT h0 N k
theorem IU(q e:Rat)(hq:0≤q)(he:0<e):∃r:Rat,0≤r∧r*r≤q∧q<(r+e)*(r+e):=by
 obtain⟨N,hN⟩:=XQ ((q+1)/e);have e1:(q+1)/e*e=q+1:=agj (by grind);have h1:=ag1 hN (age he);rw[e1] at h1;obtain⟨n,a,b⟩:=IT (p:=fun n=>((n:Rat)*e)*((n:Rat)*e)≤q) (by
  show((0:Nat):Rat)*e*(((0:Nat):Rat)*e)≤q;rw[show ((0:Nat):Rat)=0 from rfl,agJ,agJ];exact hq) N (by
  intro h;have k1:=ag5 h1 (show 0≤(N:Rat)*e by grind);have k2:=ag1 h1 (show 0≤q+1 by grind);have k3:=agP hq hq;grind)
 have h4:(0:Rat)≤(n:Rat):=by exact_mod_cast ago _
 refine⟨(n:Rat)*e,agP h4 (age he),a,?_⟩;have e2:(n:Rat)*e+e=((n+1:Nat):Rat)*e:=by rw[show ((n+1:Nat):Rat)=(n:Rat)+1 from by push_cast;rfl];grind
 rw[e2];exact Rat.not_le.1 b
def Au(q:Rat)(n:Nat):Rat:=if h:0≤q then Classical.choose (IU q (dn n) h (zd n)) else 0
theorem ug(q:Rat)(n:Nat):0≤Au q n∧Au q n*Au q n≤max q 0∧max q 0<(Au q n+dn n)*(Au q n+dn n):=by
 unfold Au;by_cases h:0≤q
 ·rw[dif_pos h];have:=Classical.choose_spec (IU q (dn n) h (zd n));rw[show max q 0=q from by simp only[Rat.max_def];grind];exact this
 ·rw[dif_neg h];have p:=zd n;have:=ahH p p;rw[show max q 0=0 from by simp only[Rat.max_def];grind];grind
theorem LY{x y:Rat}(h0:0≤x)(h:x≤y):x*x≤y*y:=by have h1:=ag5 h h0;have h2:=ag1 h (show 0≤y by grind);grind
def kB.sqrt(a:kB):kB:=⟨fun n=>Au (a.f n) n,fun ε h=>by
 have p:=ahH h h;obtain⟨M,hM⟩:=IS (half h).1;obtain⟨N,hN⟩:=a.h (ε*ε/2) (half p).1;refine⟨max M N,fun m n hm hn => ?_⟩;apply afV;intro hk;obtain⟨a1,a2,a3⟩:=ug (a.f m) m;obtain⟨b1,b2,b3⟩:=ug (a.f n) n;have d:=hM n (by omega);have dd:=zd n;have c:=hN m n (by omega) (by omega);have e1:=LY (show 0≤Au (a.f n) n+ε by grind) (show Au (a.f n) n+ε≤Au (a.f m) m by grind);have e2:=LY (show 0≤Au (a.f n) n+dn n by grind) (show Au (a.f n) n+dn n≤Au (a.f n) n+ε/2 by grind);have e3:=agP b1 (age h);have c2:max (a.f m) 0-max (a.f n) 0≤ε*ε/2:=by have:=(half p).1;by_cases x:0≤a.f m<;>by_cases y:0≤a.f n<;>simp only[Rat.max_def]<;>grind
 have e4:(Au (a.f n) n+ε)*(Au (a.f n) n+ε)-(Au (a.f n) n+ε/2)*(Au (a.f n) n+ε/2)=Au (a.f n) n*ε+ε*ε*(3/4):=by grind
 grind⟩
namespace R
theorem P7:∀d:R,0≤d→∃s:R,0≤s∧s*s=d:=by
 refine j7 fun a h => ?_
 have h:kB.le (kB.const 0) a:=h;refine⟨mk a.sqrt,?_,aj7 ⟨?_,?_⟩⟩
 ·show kB.le (kB.const 0) a.sqrt;intro ε hε;refine⟨0,fun n _ => ?_⟩;have:=(ug (a.f n) n).1;show 0-Au (a.f n) n≤ε;grind
 ·intro ε hε;obtain⟨N,hN⟩:=h ε hε;refine⟨N,fun n hn => ?_⟩;have:=(ug (a.f n) n).2.1;have k:=hN n hn;have k:0-a.f n≤ε:=k;show Au (a.f n) n*Au (a.f n) n-a.f n≤ε;simp only[Rat.max_def] at this;grind
 ·intro ε hε;obtain⟨B,hB,M,hM⟩:=a.sqrt.Tp;obtain⟨δ,aeG,hδ⟩:=scaled (show 0<B+B+1 by grind) hε;obtain⟨N,hN⟩:=IS (show 0<min δ 1 by simp only[Rat.min_def];grind);refine⟨max M N,fun n hn => ?_⟩;have k1:Au (a.f n) n≤B:=(hM n (by omega)).1;have k2:=hN n (by omega);have k3:dn n≤δ∧dn n≤1:=by simp only[Rat.min_def] at k2;grind
  obtain⟨a1,a2,a3⟩:=ug (a.f n) n;have p:=zd n;show a.f n-Au (a.f n) n*Au (a.f n) n≤ε;generalize Au (a.f n) n=r at *;generalize dn n=t at *;have m1:a.f n≤max (a.f n) 0:=by simp only[Rat.max_def];grind
  have m2:=ag1 (show r+r+t≤B+B+1 by grind) (age p);have m3:=ag5 k3.1 (show 0≤B+B+1 by grind);have:=(half hε).1;grind
open Classical in
def fQ(x:R):Int:=if 0<x then 1 else if x<0 then -1 else 0
theorem cV(x:R):(0<x∧fQ x=1)∨(x=0∧fQ x=0)∨(x<0∧fQ x = -1):=by
 unfold fQ;by_cases h:0<x
 ·rw[ag9 h];exact .inl ⟨h,rfl⟩
 ·rw[ag7 h];by_cases k:x<0
  ·rw[ag9 k];exact .inr (.inr ⟨k,rfl⟩)
  ·rw[ag7 k];exact .inr (.inl ⟨by grind,rfl⟩)
theorem qE{x:R} : fQ x=1↔0<x:=by rcases cV x with h|h|h<;>constructor<;>intro k<;>grind
theorem qF{x:R} : fQ x = -1↔x<0:=by rcases cV x with h|h|h<;>constructor<;>intro k<;>grind
theorem jv{x:R} : fQ x=0↔x=0:=by rcases cV x with h|h|h<;>constructor<;>intro k<;>grind
theorem sM{x y:R}(h:x*y=0):x=0∨y=0:=by
 rcases cV x with ⟨a,_⟩|⟨a,_⟩|⟨a,_⟩
 ·rcases cV y with ⟨b,_⟩|⟨b,_⟩|⟨b,_⟩
  ·have:=mul_pos a b;grind
  ·exact .inr b
  ·have:=mul_pos a (show 0 < -y by grind);grind
 ·exact .inl a
 ·rcases cV y with ⟨b,_⟩|⟨b,_⟩|⟨b,_⟩
  ·have:=mul_pos (show 0 < -x by grind) b;grind
  ·exact .inr b
  ·have:=mul_pos (show 0 < -x by grind) (show 0 < -y by grind);grind
theorem P8{x y s d:R}(hs:0≤s)(hd:s*s=d) :
  (fQ d=0→fQ (x+y*s)=fQ x) ∧
  (fQ x=fQ y∨fQ y=0→fQ (x+y*s)=fQ x) ∧
  (fQ d≠0→fQ x=0→fQ (x+y*s)=fQ y) ∧
  (fQ d≠0→fQ x≠0→fQ y≠0→fQ x≠fQ y→fQ (x+y*s)=fQ x*fQ (x*x-y*y*d)):=by
 have d0:fQ d=0→s=0:=fun h=>by have:=jv.1 h;rw[this] at hd;rcases sM hd with h|h<;>exact h
 have d1:fQ d≠0→0<s:=fun h=>by
  have h:=mt jv.2 h;have:s≠0:=fun e=>h (by rw[←hd,e];grind)
  grind
 refine⟨fun h=>by rw[d0 h];congr 1;grind,?_,?_,?_⟩
 ·intro h;by_cases hy:y=0
  ·rw[hy];congr 1;grind
  ·have hx:fQ x=fQ y:=h.resolve_right (mt jv.1 hy);rcases cV y with ⟨b,hb⟩|⟨b,_⟩|⟨b,hb⟩
   ·rw[hx,hb];have:0<x:=qE.1 (hx.trans hb);have:=lH b.1 hs;exact qE.2 (by grind)
   ·exact absurd b hy
   ·rw[hx,hb];have:x<0:=qF.1 (hx.trans hb);have:=lH (show 0 ≤ -y by grind) hs;exact qF.2 (by grind)
 ·intro h hx;have sp:=d1 h;rw[jv.1 hx];rcases cV y with ⟨b,hb⟩|⟨b,hb⟩|⟨b,hb⟩
  ·rw[hb];have:=mul_pos b sp;exact qE.2 (by grind)
  ·rw[hb,b];exact jv.2 (by grind)
  ·rw[hb];have:=mul_pos (show 0 < -y by grind) sp;exact qF.2 (by grind)
 ·intro h hx hy hn;have sp:=d1 h;have e:x*x-y*y*d=(x+y*s)*(x-y*s):=by rw[←hd];grind
  rw[e];rcases cV x with ⟨a,ha⟩|⟨a,ha⟩|⟨a,ha⟩
  ·rcases cV y with ⟨b,hb⟩|⟨b,hb⟩|⟨b,hb⟩
   ·exact absurd (ha.trans hb.symm) hn
   ·exact absurd hb hy
   ·have k:=mul_pos (show 0 < -y by grind) sp;have p:0<x-y*s:=by grind
    rw[ha,Int.one_mul];rcases cV (x+y*s) with ⟨c,hc⟩|⟨c,hc⟩|⟨c,hc⟩
    ·rw[hc];exact(qE.2 (mul_pos c p)).symm
    ·rw[hc,c];exact(jv.2 (by grind)).symm
    ·rw[hc];have:=mul_pos (show 0 < -(x+y*s) by grind) p;exact(qF.2 (by grind)).symm
  ·exact absurd ha hx
  ·rcases cV y with ⟨b,hb⟩|⟨b,hb⟩|⟨b,hb⟩
   ·have k:=mul_pos b sp;have p:0 < -(x-y*s):=by grind
    rw[ha];rcases cV (x+y*s) with ⟨c,hc⟩|⟨c,hc⟩|⟨c,hc⟩
    ·have:=mul_pos c p;rw[hc,qF.2 (show (x+y*s)*(x-y*s)<0 by grind)];rfl
    ·rw[hc,c,jv.2 (show (0:R)*(x-y*s)=0 by grind)];rfl
    ·have:=mul_pos (show 0 < -(x+y*s) by grind) p;rw[hc,qE.2 (show 0<(x+y*s)*(x-y*s) by grind)];rfl
   ·exact absurd hb hy
   ·exact absurd (ha.trans hb.symm) hn
end R
end Go.Proofs.YtcpnocgollpbhaaGreatDoor.Sym
namespace Go.Proofs.YtcpnocgollpbhaaGreatDoor.Sym
def evR:List Rat→R→R
 |[],_=>0
 |a::r,x=>evR r x*x+R.ofQ a
open cF Go
set_option linter.unusedVariables false
theorem zZ(q:Rat):∀p:List Rat,evR p (R.ofQ q)=R.ofQ (evalL p q)
 |[]=>rfl
 |a::r=>by rw[evR,evalL,zZ q r,R.oJ,R.qD]
theorem CZ(x:R):∀p q:List Rat,evR (dw p q) x=evR p x+evR q x
 |[],q=>by rw[dw,evR];grind
 |a::p,[]=>by rw[dw,evR,evR];grind
 |a::p,b::q=>by rw[dw,evR,evR,evR,CZ x p q,R.oJ];grind
theorem E0(c:Rat)(x:R):∀p:List Rat,evR (a7 c p) x=R.ofQ c*evR p x
 |[]=>by rw[show a7 c []=[] from rfl,evR];grind
 |a::p=>by have:=E0 c x p;rw[show a7 c (a::p)=c*a::a7 c p from rfl,evR,evR,this,R.qD];grind
theorem uh(x:R):∀p q:List Rat,evR (mulL p q) x=evR p x*evR q x
 |[],q=>by rw[mulL,evR];grind
 |a::p,q=>by rw[mulL,CZ,E0,evR,evR,uh x p q,R.eg];grind
theorem C5(x:R):∀p:List Rat,evR (aO p) x=evR p x
 |[]=>rfl
 |a::r=>by
  have ih:=C5 x r;rw[aO];cases h:(aO r).isEmpty&&decide (a=0) with
  |false=>rw[agf,evR,evR,ih]
  |true =>rw[afZ];rw[afX,ajE,ahV] at h;rw[h.1] at ih;rw[evR,evR,←ih,h.2,evR,R.eg];grind
theorem LZ{p q:List Rat}(h:∀x,evalL p x=evalL q x)(x:R):evR p x=evR q x:=by rw[←C5 x p,←C5 x q,Iv h]
theorem P9{p q:List Rat}(h:Dv p q){x:R}(hx:evR p x=0):evR q x=0:=by obtain⟨u,hu⟩:=h;rw[LZ (q:=mulL u p) (fun y=>by rw[aE];exact hu y),uh,hx];grind
theorem Sh(x:R):evR [1] x=1:=by rw[evR,evR,R.uQ];grind
theorem L4(t:List Rat)(x:R):∀k,evR (gp t k) x=0→evR t x=0
 |0,h=>by exfalso;have e:evR [1] x=0:=h;rw[Sh] at e;have:(0:R)<1:=R.jh.2 (by decide);grind
 |k+1,h=>by
  have e:evR (mulL (gp t k) t) x=0:=h;rw[uh] at e;rcases R.sM e with h|h
  ·exact L4 t x k h
  ·exact h
theorem IV{p:List Rat}(hz:aQ p=false)(h0:p≠[]){x:R}(h:evR p x=0):evR (aY p) x=0:=by obtain⟨_,_,_,_,k,_,f5⟩:=free_spec hz h0;exact L4 _ x k (P9 f5 h)
def qG(x b:R):Prop := -b≤x∧x≤b
theorem qG.mul{u v A B:R}(h:qG u A)(k:qG v B):qG (u*v) (A*B):=by
 have a1:=R.lH (R.mM.2 h.2) (R.mM.2 k.2);have a2:=R.lH (R.mM.2 h.2) (R.mM.2 k.1);have a3:=R.lH (R.mM.2 h.1) (R.mM.2 k.2);have a4:=R.lH (R.mM.2 h.1) (R.mM.2 k.1);constructor
 ·have e:(A-u)*(B-v)+(u - -A)*(v - -B)=(A*B+u*v)+(A*B+u*v):=by grind
  grind
 ·have e:(A-u)*(v - -B)+(u - -A)*(B-v)=(A*B-u*v)+(A*B-u*v):=by grind
  grind
theorem qG.add{u v A B:R}(h:qG u A)(k:qG v B):qG (u+v) (A+B):=by unfold qG at *;grind
theorem qG.mono{u A B:R}(h:qG u A)(k:A≤B):qG u B:=by unfold qG at *;grind
theorem qG.ex(u:R):∃A,0≤A∧qG u A:=by obtain⟨B,h0,h1,h2⟩:=R.CY u;exact⟨R.ofQ B,(R.jh.2 h0).1,h2,h1⟩
theorem GJ{B:R}{x:R}(hx:qG x B)(hB:0≤B):∀p:List Rat,∃K,0≤K∧∀y t,qG y B→qG (y-x) t→qG (evR p y-evR p x) (K*t)
 |[]=>⟨0,aiA _,fun y t _ _=>by simp only[evR];unfold qG;grind⟩
 |a::r=>by
  obtain⟨K,hK,h⟩:=GJ hx hB r;obtain⟨M,hM,hm⟩:=qG.ex (evR r x);refine⟨K*B+M,by have:=R.lH hK hB;grind,fun y t hy ht => ?_⟩;have h1:=((h y t hy ht).mul hy).add (hm.mul ht);rw[evR,evR];have e1:evR r y*y+R.ofQ a-(evR r x*x+R.ofQ a)=(evR r y-evR r x)*y+evR r x*(y-x):=by grind
  have e2:(K*B+M)*t=K*t*B+M*t:=by grind
  rw[e1,e2];exact h1
theorem Si{a b:Rat}{x:R}(h1:R.ofQ a≤x)(h2:x≤R.ofQ b){ε:Rat}(hε:0<ε):∃q,a≤q∧q≤b∧qG (R.ofQ q-x) (R.ofQ ε):=by
 by_cases e1:x=R.ofQ a
 ·refine⟨a,ag2,R.dm.1 (by rw[←e1];exact h2),?_⟩;have:=(R.jh.2 hε).1;rw[e1];unfold qG;grind
 ·by_cases e2:x=R.ofQ b
  ·refine⟨b,R.dm.1 (by rw[←e2];exact h1),ag2,?_⟩;have:=(R.jh.2 hε).1;rw[e2];unfold qG;grind
  ·have h3:x<R.ofQ b:=by grind
   have h4:x<x+R.ofQ ε:=by have:=R.jh.2 hε;grind
   by_cases h5:R.ofQ b≤x+R.ofQ ε
   ·obtain⟨q,k1,k2⟩:=R.nL h3;refine⟨q,R.dm.1 (by grind),R.dm.1 (by grind),?_⟩;unfold qG;grind
   ·obtain⟨q,k1,k2⟩:=R.nL h4;refine⟨q,R.dm.1 (by grind),R.dm.1 (by grind),?_⟩;unfold qG;grind
theorem Tq{y c:Rat}(h:qG (R.ofQ y) (R.ofQ c)):ab y≤c:=by have h1 : -c≤y:=R.dm.1 (by rw[R.uP];exact h.1);have h2:=R.dm.1 h.2;rcases bf y with k|k<;>grind
theorem oK{f:List Rat}{a b:Rat}(h:n6 f a b){x:R}(h1:R.ofQ a≤x)(h2:x≤R.ofQ b):evR f x≠0:=by
 intro h0;obtain⟨c,c0,hc⟩:=h;obtain⟨B,hB,hx⟩:=qG.ex x;have o1:(0:R)<1:=R.jh.2 (by decide);obtain⟨K,hK,hl⟩:=GJ (B:=B+1) (hx.mono (by grind)) (by grind) f;obtain⟨k,k0,k1,_⟩:=R.CY K;have e1:c/(k+k)*(k+k)=c:=agj (by grind);have p1:0<c/(k+k):=kX c0 (by grind);have hε:0<min 1 (c/(k+k)):=by simp only[Rat.min_def];grind
 obtain⟨q,q1,q2,q3⟩:=Si h1 h2 hε;have le1:R.ofQ (min 1 (c/(k+k)))≤1:=R.dm.2 (by simp only[Rat.min_def];grind);have GK:R.ofQ (min 1 (c/(k+k)))≤R.ofQ (c/(k+k)):=R.dm.2 (by simp only[Rat.min_def];grind);have hq:qG (R.ofQ q) (B+1):=by unfold qG at *;grind
 have h3:=hl (R.ofQ q) (R.ofQ (c/(k+k))) hq (q3.mono GK);rw[h0,zZ] at h3;have m1:=R.lH (R.mM.2 k1) (R.jh.2 p1).1;have e2:R.ofQ k*R.ofQ (c/(k+k))=R.ofQ (k*(c/(k+k))):=(R.qD _ _).symm;have h4:K*R.ofQ (c/(k+k))≤R.ofQ (k*(c/(k+k))):=by grind
 have h5:qG (R.ofQ (evalL f q)) (R.ofQ (k*(c/(k+k)))):=by have:=h3.mono h4;unfold qG at *;grind
 have h6:=Tq h5;have h7:=hc q q1 q2;grind
theorem GL{p:List Rat}(hz:aQ p=false)(h0:p≠[]){u v:Rat}(he:eZ (aZ p) u-eZ (aZ p) v=0){x:R}(h1:R.ofQ u<x)(h2:x≤R.ofQ v):evR (aY p) x≠0:=by
 obtain⟨f1,f2,f3,_⟩:=free_spec hz h0;by_cases hu:evalL (aY p) u=0
 ·obtain⟨q,q1,q2⟩:=R.nL h1;have q3:=R.kK.1 q1;obtain⟨t,t1,t2,t3⟩:=ET f3 hu (show 0<q-u by grind) 1 (Or.inl rfl);rw[aht] at t3;have w1:R.ofQ (u+t)≤x:=by
   have:=R.dm.2 (show u+t≤q by grind);grind
  have w2:u+t≤v:=R.dm.1 (by grind);have a1:eZ (aZ p) (u+t)≤eZ (aZ p) u:=mL f1 f2 f3 (by grind);have a2:eZ (aZ p) v≤eZ (aZ p) (u+t):=mL f1 f2 f3 w2;exact oK (rB f1 f2 f3 w2 (show eZ (aZ p) (u+t)=eZ (aZ p) v by omega) t3) w1 h2
 ·have w:u≤v:=R.dm.1 (by grind);exact oK (rB f1 f2 f3 w (show eZ (aZ p) u=eZ (aZ p) v by omega) hu) h1.1 h2
def QT(x:R)(r:Rat×Rat):Prop:=(r.1=r.2∧x=R.ofQ r.1)∨(R.ofQ r.1<x∧x<R.ofQ r.2)
theorem wD{p:List Rat}(hz:aQ p=false)(h0:p≠[]){a w:Rat}(hw:0≤w){x:R}(hx:evR (aY p) x=0):∀(n k j:Nat) (l:List (Rat×Rat)),eY (aZ p) (aY p) a w n k j=some l→R.ofQ (ptQ a w k j)<x→x≤R.ofQ (ptQ a w k (j+1))→∃r∈l,QT x r
 |0,_,_,_,h,_,_=>by cases h
 |n+1,k,j,l,h,g1,g2=>by
  rw[eY] at h;by_cases c0:eZ (aZ p) (ptQ a w k j)-eZ (aZ p) (ptQ a w k (j+1))=0
  ·exact absurd hx (GL hz h0 c0 g1 g2)
  ·rw[ag7 c0] at h;by_cases c1:eZ (aZ p) (ptQ a w k j)-eZ (aZ p) (ptQ a w k (j+1))=1∧evalL (aY p) (ptQ a w k j)≠0
   ·rw[ag9 c1] at h;have hle:=zY a hw k j;generalize ptQ a w k j=u at *;generalize ptQ a w k (j+1)=v at *;by_cases c2:evalL (aY p) v=0
    ·rw[ag9 c2] at h;injection h with h;subst h
     refine⟨_,ah4.2 rfl,Or.inl ⟨rfl,?_⟩⟩;apply afV;intro et;obtain⟨f1,f2,f3,_⟩:=free_spec hz h0;obtain⟨t,t1,t2⟩:=R.nL (show x<R.ofQ v by grind);have t3:t<v:=R.kK.1 t2;have t4:u<t:=R.kK.1 (by grind);have b1:eZ (aZ p) t≤eZ (aZ p) u:=mL f1 f2 f3 (age t4);have b2:eZ (aZ p) v≤eZ (aZ p) t:=mL f1 f2 f3 (age t3);by_cases b3:eZ (aZ p) u-eZ (aZ p) t=0
     ·exact GL hz h0 b3 g1 t1.1 hx
     ·have b4:eZ (aZ p) t-eZ (aZ p) v=0:=by have:=c1.1;omega
      exact GL hz h0 b4 (x:=R.ofQ v) t2 (aiA _) (by rw[zZ,c2];rfl)
    ·rw[ag7 c2] at h;injection h with h;subst h
     refine⟨_,ah4.2 rfl,Or.inr ⟨g1,?_⟩⟩;have:x≠R.ofQ v:=fun e=>c2 (by rw[e,zZ] at hx;exact R.xT hx)
     grind
   ·rw[ag7 c1] at h;cases x6:eY (aZ p) (aY p) a w n (k+1) (2*j) with
    |none=>rw[x6] at h;cases h
    |some l1 =>
     cases Jc:eY (aZ p) (aY p) a w n (k+1) (2*j+1) with
     |none=>rw[x6,Jc] at h;cases h
     |some l2 =>
      rw[x6,Jc] at h;injection h with h;subst h
      have i1:=wD hz h0 hw hx n _ _ l1 x6;have i2:=wD hz h0 hw hx n _ _ l2 Jc;rw[hO] at i1;rw[show 2*j+1+1=2*(j+1) from by omega,hO] at i2;by_cases hm:x≤R.ofQ (ptQ a w (k+1) (2*j+1))
      ·obtain⟨r,r1,r2⟩:=i1 g1 hm;exact⟨r,ah6.2 (Or.inl r1),r2⟩
      ·obtain⟨r,r1,r2⟩:=i2 (R.jC.1 hm) g2;exact⟨r,ah6.2 (Or.inr r1),r2⟩
theorem XS{p:List Rat}{b:Rat}(hz:aQ p=false)(h0:p≠[])(hc:Wk p b)(hb:0≤b){x:R}(hx:evR p x=0):R.ofQ (-b)<x∧x≤R.ofQ b:=by
 constructor
 ·rw[←R.jC];intro h;obtain⟨B,B0,B1,B2⟩:=R.CY x;exact oK (IF hz h0 hc hb (u := -B) (v := -b) (fun y _ hy=>by rcases bf y with k|k<;>grind)) B2 h hx
 ·apply afV;intro h;obtain⟨B,B0,B1,B2⟩:=R.CY x;exact oK (IF hz h0 hc hb (u:=b) (v:=B) (fun y hy _=>by rcases bf y with k|k<;>grind)) (R.jC.1 h).1 B1 hx
end Go.Proofs.YtcpnocgollpbhaaGreatDoor.Sym
namespace Go.Proofs.YtcpnocgollpbhaaGreatDoor.Sym
set_option linter.unusedVariables false
structure oL (f:List Rat) (lo hi:Rat) (x:R):Prop where
 a:rC f lo hi
 i:QT x (lo,hi)
 z:evR f x=0
theorem xU{x y:R}(h:y<x):R.fQ (x-y)=1:=R.qE.2 (by grind)
theorem xV{x y:R}(h:x<y):R.fQ (x-y) = -1:=R.qF.2 (by grind)
theorem GM(x:R):R.fQ (x-x)=0:=R.jv.2 (by grind)
theorem XT{x y:R}(h:R.fQ (x-y)=1):y<x:=by have:=R.qE.1 h;grind
theorem XU{x y:R}(h:R.fQ (x-y) = -1):x<y:=by have:=R.qF.1 h;grind
theorem Nf{p:List Rat}{x:R}(h:evR p x≠0):∃u v,R.ofQ u<x∧x<R.ofQ v∧n6 p u v:=by
 obtain⟨B,hB,hx⟩:=qG.ex x;have o1:(0:R)<1:=R.jh.2 (by decide);obtain⟨K,hK,hl⟩:=GJ (B:=B+1) (hx.mono (by grind)) (by grind) p;obtain⟨k,k0,k1,_⟩:=R.CY K;obtain⟨q,q0,hq⟩:∃q:Rat,0<q∧(R.ofQ q≤evR p x∨R.ofQ q ≤ -evR p x):=by
  rcases R.cV (evR p x) with ⟨s,_⟩|⟨s,_⟩|⟨s,_⟩
  ·obtain⟨q,a,b⟩:=R.IQ s;exact⟨q,a,.inl b⟩
  ·exact absurd s h
  ·obtain⟨q,a,b⟩:=R.IQ (show 0 < -evR p x by grind);exact⟨q,a,.inr b⟩
 have e1:q/(k+k)*(k+k)=q:=agj (by grind);have p1:0<q/(k+k):=kX q0 (by grind);have hε:0<min 1 (q/(k+k)):=by simp only[Rat.min_def];grind
 have le1:R.ofQ (min 1 (q/(k+k)))≤1:=R.dm.2 (by simp only[Rat.min_def];grind);have GK:R.ofQ (min 1 (q/(k+k)))≤R.ofQ (q/(k+k)):=R.dm.2 (by simp only[Rat.min_def];grind);have hpe:=R.jh.2 hε;generalize min 1 (q/(k+k))=ε at *;obtain⟨u,u1,u2⟩:=R.nL (show x-R.ofQ ε<x by grind);obtain⟨v,v1,v2⟩:=R.nL (show x<x+R.ofQ ε by grind);refine⟨u,v,u2,v1,q/2,by grind,fun y y1 y2 => ?_⟩;have w1:=R.dm.2 y1;have w2:=R.dm.2 y2;have hy:qG (R.ofQ y) (B+1):=by unfold qG at *;grind
 have h3:=hl (R.ofQ y) (R.ofQ (q/(k+k))) hy (by unfold qG;grind);rw[zZ] at h3;have m1:=R.lH (R.mM.2 k1) (R.jh.2 p1).1;have e2:R.ofQ k*R.ofQ (q/(k+k))=R.ofQ (k*(q/(k+k))):=(R.qD _ _).symm;have e3:k*(q/(k+k))=q/2:=by grind
 rw[e3] at e2;have e4:R.ofQ (q/2)+R.ofQ (q/2)=R.ofQ q:=by rw[←R.oJ];congr 1;grind
 have h5:=h3.mono (show K*R.ofQ (q/(k+k))≤R.ofQ (q/2) by grind);obtain⟨h6,h7⟩:=h5;rcases hq with hq|hq
 ·have:q/2≤evalL p y:=R.dm.1 (by grind);rcases bf (evalL p y) with t|t<;>grind
 ·have:q/2 ≤ -evalL p y:=R.dm.1 (by rw[R.uP];grind);rcases bf (evalL p y) with t|t<;>grind
namespace oL
variable {f:List Rat} {lo hi:Rat} {x:R}
theorem cmp(A:oL f lo hi x)(q:Rat):ep f lo hi q=R.fQ (x-R.ofQ q):=by
 have hle:=A.a.le;rcases A.i with ⟨e,hx⟩|⟨h1,h2⟩
 ·have e:lo=hi:=e;have hx:x=R.ofQ lo:=hx;unfold ep;rw[ag9 e,hx];rcases jg lo q with ⟨k,w⟩|⟨k,w⟩|⟨k,w⟩
  ·rw[w,xV (R.kK.2 k)]
  ·rw[w,k,GM]
  ·rw[w,xU (R.kK.2 k)]
 ·have h1:R.ofQ lo<x:=h1;have h2:x<R.ofQ hi:=h2;have bH:lo<hi:=R.kK.1 (by grind);by_cases c1:q≤lo
  ·have:=R.dm.2 c1;rw[A.a.low bH c1,xU (by grind)]
  ·by_cases c2:hi≤q
   ·have:=R.dm.2 c2;rw[A.a.high bH c2,xV (by grind)]
   ·have d1:lo<q:=by grind
    have d2:q<hi:=by grind
    rcases A.a.pK bH d1 d2 with ⟨k,k1,k2⟩|⟨k,k1⟩|⟨k,k1,k2⟩
    ·rw[k,xU];refine R.jC.1 fun hh => ?_
     exact oK (A.a.Gq bH (age d1) k2) h1.1 hh A.z
    ·rw[k];by_cases e:x=R.ofQ q
     ·rw[e,GM]
     ·exfalso;by_cases l:x<R.ofQ q
      ·obtain⟨t,t1,t2⟩:=R.nL l;have g1:lo<t:=R.kK.1 (by grind);have g2:t<q:=R.kK.1 t2;have b:=A.a.before bH (age g1) g2 (age d2) k1;exact oK (A.a.Gq bH (age g1) b.2) h1.1 t1.1 A.z
      ·obtain⟨t,t1,t2⟩:=R.nL (show R.ofQ q<x by grind);have g1:q<t:=R.kK.1 t1;have g2:t<hi:=R.kK.1 (by grind);have b:=A.a.after bH (age d1) g1 (age g2) k1;exact oK (A.a.xP bH (by grind) (age g2) b.1 b.2) t2.1 h2.1 A.z
    ·rw[k,xV];refine R.jC.1 fun hh => ?_
     exact oK (A.a.xP bH (age d1) (age d2) k1 k2) hh h2.1 A.z
theorem low(A:oL f lo hi x):R.ofQ lo≤x:=by
 rcases A.i with ⟨e,hx⟩|⟨h1,h2⟩
 ·have hx:x=R.ofQ lo:=hx;grind
 ·exact h1.1
theorem high(A:oL f lo hi x):x≤R.ofQ hi:=by
 rcases A.i with ⟨e,hx⟩|⟨h1,h2⟩
 ·have hx:x=R.ofQ lo:=hx;have e:lo=hi:=e;rw[hx,e];grind
 ·exact h2.1
theorem same{y:R}(h:∀q,R.fQ (x-R.ofQ q)=R.fQ (y-R.ofQ q)):x=y:=by
 refine afV fun et => ?_
 by_cases l:x<y
 ·obtain⟨q,a,b⟩:=R.nL l;have:=h q;rw[xV a,xU b] at this;omega
 ·obtain⟨q,a,b⟩:=R.nL (show y<x by grind);have:=h q;rw[xU b,xV a] at this;omega
theorem uniq(A:oL f lo hi x){y:R}(B:oL f lo hi y):x=y:=same fun q=>by rw[←A.cmp,←B.cmp]
theorem mk'(A:rC f lo hi)(h1:R.ofQ lo≤x)(h2:x≤R.ofQ hi)(hz:evR f x=0):oL f lo hi x:=by
 refine⟨A,?_,hz⟩;rcases A.RH with ⟨e,_⟩|⟨l,k1,k2,_⟩
 ·left;subst e;exact⟨rfl,by show x=R.ofQ lo;grind⟩
 ·right;have n1:x≠R.ofQ lo:=fun e=>k1 (by rw[e,zZ] at hz;exact R.xT hz)
  have n2:x≠R.ofQ hi:=fun e=>k2 (by rw[e,zZ] at hz;exact R.xT hz)
  constructor
  ·show R.ofQ lo<x;grind
  ·show x<R.ofQ hi;grind
theorem zr(A:oL f lo hi x)(p:List Rat):Zr f lo hi p↔evR p x=0:=by
 constructor
 ·intro h;refine afV fun et => ?_
  obtain⟨u,v,u1,v1,w⟩:=Nf et;exact h u v (by rw[A.cmp,xU u1]) (by rw[A.cmp,xV v1]) w
 ·intro h u v hu hv w;rw[A.cmp] at hu hv;exact oK w (XT hu).1 (XU hv).1 h
theorem van(A:oL f lo hi x){p:List Rat}(zp:aQ p=false):M7 p f lo hi=true↔evR p x=0:=by
 unfold M7;by_cases h0:p.length=0
 ·rw[ag9 h0,afP h0];exact⟨fun _=>rfl,fun _=>rfl⟩
 ·rw[ag7 h0];have AJ:=A.a.wB p zp;have zg:=eM p f;obtain⟨d1,d2⟩:=nI p f zp A.a.zf;have hg:evR p x=0↔evR (cu p f) x=0:=by
   constructor
   ·intro h;obtain⟨U,V,hb⟩:=CB p f zp A.a.zf;rw[LZ (q:=dw (mulL U p) (mulL V f)) (fun y=>by rw[bz,aE,aE];exact hb y),CZ,uh,uh,h,A.z];grind
   ·exact P9 d1
  rw[hg];by_cases h2:(cu p f).length<2
  ·rw[ag9 h2];refine⟨fun h=>absurd h (by decide),fun h => ?_⟩;exfalso;have:=ag8.2 AJ;obtain⟨c,hc⟩:∃c,cu p f=[c]:=List.length_eq_one_iff.1 (by omega);rw[hc] at h zg AJ;have hc:c≠0:=cP zg AJ;rw[evR,evR] at h;exact hc (R.xT (by rw[R.eg];grind))
  ·rw[ag7 h2];by_cases he:lo=hi
   ·rw[ag9 he,ahO];have hx:x=R.ofQ lo:=by
     rcases A.i with ⟨e,hx⟩|⟨h1,h2⟩
     ·exact hx
     ·have h1:R.ofQ lo<x:=h1;have h2:x<R.ofQ hi:=h2;rw[←he] at h2;grind
    rw[hx,zZ];exact⟨fun h=>by rw[h];rfl,fun h=>R.xT h⟩
   ·rw[ag7 he,ahO,A.a.Vs (by have:=A.a.le;grind) zg AJ d2,A.zr]
theorem half(A:oL f lo hi x):oL f (gO f lo hi).1 (gO f lo hi).2 x:=by
 obtain⟨a1,a2,_⟩:=pE A.a;refine mk' a1 ?_ ?_ A.z
 ·have h:=a1.XD;rw[a2,A.cmp] at h;refine afV fun hh => ?_
  rw[xV (R.jC.1 hh)] at h;omega
 ·have h:=a1.XE;rw[a2,A.cmp] at h;refine afV fun hh => ?_
  rw[xU (R.jC.1 hh)] at h;omega
end oL
end Go.Proofs.YtcpnocgollpbhaaGreatDoor.Sym
namespace Go.Proofs.YtcpnocgollpbhaaGreatDoor.Sym
open Go Path cF
set_option linter.unusedVariables false
section
variable {f g:List Rat} {x y:R}
theorem Tr{lo hi lo' hi':Rat}(A:oL f lo hi x)(B:oL g lo' hi' y):wM.VG f lo hi g lo' hi'=true↔x=y:=by
 unfold wM.VG;rw[afX,afX,A.van B.a.zf,ahO,ahO,A.cmp,A.cmp];constructor
 ·rintro ⟨h0,h1,h2⟩
  have k1:R.ofQ lo'≤x:=afV fun hh=>by rw[xV (R.jC.1 hh)] at h1;omega
  have k2:x≤R.ofQ hi':=afV fun hh=>by rw[xU (R.jC.1 hh)] at h2;omega
  exact(oL.mk' B.a k1 k2 h0).uniq B
 ·rintro rfl
  have l:=B.low;have h:=B.high;refine⟨B.z,ajA.1 fun k => ?_,ajA.1 fun k => ?_⟩
  ·rcases R.cV (x-R.ofQ lo') with c|c|c
   ·omega
   ·omega
   ·grind
  ·rcases R.cV (x-R.ofQ hi') with c|c|c
   ·grind
   ·omega
   ·omega
theorem L6:∀(n:Nat) (lo hi lo' hi':Rat) (r:(Rat×Rat)×(Rat×Rat)),oL f lo hi x→oL g lo' hi' y→om f g n lo hi lo' hi'=some r →
  oL f r.1.1 r.1.2 x∧oL g r.2.1 r.2.2 y∧(r.1.2≤r.2.1∨r.2.2≤r.1.1)
 |0,_,_,_,_,_,_,_,h=>by cases h
 |n+1,lo,hi,lo',hi',r,A,B,h=>by
  rw[om] at h;split at h
  ·exact L6 n _ _ _ _ r A.half B.half h
  ·rename_i hn;injection h with h
   subst h;refine⟨A,B,?_⟩;by_cases h1:lo'<hi
   ·right;show hi'≤lo;grind
   ·left;show hi≤lo';grind
theorem C6{c:Rat}(hc:R.ofQ c≤x-y∨R.ofQ c≤y-x):∀(n:Nat) (lo hi lo' hi':Rat),oL f lo hi x→oL g lo' hi' y→(hi-lo)+(hi'-lo')<twP n*c→∃r,om f g (n+1) lo hi lo' hi'=some r
 |0,lo,hi,lo',hi',A,B,h=>by
  rw[xO,aht] at h;rw[om,ag7]
  ·exact⟨_,rfl⟩
  ·rintro ⟨h1,h2⟩
   have a1:=A.low;have a2:=A.high;have b1:=B.low;have b2:=B.high;have h':=R.kK.2 h;rw[R.oJ,R.GI,R.GI] at h';have sQ:=R.kK.2 h1;have Ww:=R.kK.2 h2;rcases hc with hc|hc<;>grind
 |n+1,lo,hi,lo',hi',A,B,h=>by
  rw[om];split
  ·obtain⟨_,_,_,_,a⟩:=pE A.a;obtain⟨_,_,_,_,b⟩:=pE B.a;rw[j6] at h;exact C6 hc n _ _ _ _ A.half B.half (by grind)
  ·exact⟨_,rfl⟩
theorem VI{lo hi lo' hi':Rat}(A:oL f lo hi x)(B:oL g lo' hi' y){c:Rat}(hc:x≠y→R.ofQ c≤x-y∨R.ofQ c≤y-x){n:Nat}(hw:(hi-lo)+(hi'-lo')<twP n*c):Se f g (n+1) lo hi lo' hi'=some (R.fQ (x-y)):=by
 unfold Se;cases he:wM.VG f lo hi g lo' hi' with
 |true=>rw[afZ,(Tr A B).1 he,GM]
 |false =>
  rw[agf];have et:x≠y:=fun e=>by rw[(Tr A B).2 e] at he;cases he
  obtain⟨r,hr⟩:=C6 (hc et) n lo hi lo' hi' A B hw;rw[hr];obtain⟨k1,k2,k3⟩:=L6 _ lo hi lo' hi' r A B hr;have a1:=k1.low;have a2:=k1.high;have b1:=k2.low;have b2:=k2.high;have m1:=Gr r.1.1 r.1.2;have m2:=Gr r.2.1 r.2.2;have l1:=k1.a.le;have l2:=k2.a.le;show some (if midQ r.1.1 r.1.2<midQ r.2.1 r.2.2 then (-1:Int) else 1)=_
  congr 1
  rcases k3 with k3|k3
  ·have k3':=R.dm.2 k3;have CE:x<y:=by grind
   rw[xV CE,ag9];refine Rat.not_le.1 fun hh=>et ?_
   have e1:r.1.1=r.1.2:=by grind
   have e2:r.2.1=r.2.2:=by grind
   have e3:r.1.2=r.2.1:=by grind
   rw[e1] at a1;rw[←e2,←e3] at b2;rw[←e3] at b1;grind
  ·have k3':=R.dm.2 k3;have CE:y<x:=by grind
   rw[xU CE,ag7];intro hh;grind
end
end Go.Proofs.YtcpnocgollpbhaaGreatDoor.Sym
namespace Go.Proofs.YtcpnocgollpbhaaGreatDoor.Sym
open Go cF
set_option linter.unusedVariables false
theorem ze:∀(l:List Int) (s:Int),varS (-s) (l.map (fun a => -a))=varS s l
 |[],s=>rfl
 |a::r,s=>by
  rw[agD,varS,varS];by_cases h:a=0
  ·rw[ag9 h,ag9 (by omega)];exact ze r s
  ·rw[ag7 h,ag7 (by omega),ze r a];by_cases h2:a = -s
   ·rw[ag9 h2,ag9 (by omega)]
   ·rw[ag7 h2,ag7 (by omega)]
theorem L7(x y:Rat):sg (x*y)=sg x*sg y:=by
 rcases cL x with ⟨a,b⟩|⟨a,b⟩|⟨a,b⟩<;>rcases cL y with ⟨c,d⟩|⟨c,d⟩|⟨c,d⟩<;>rw[b,d]
 ·have:=ahH (show 0 < -x by grind) (show 0 < -y by grind);rcases cL (x*y) with k|k|k<;>first|(rw [k.2];decide)|(exfalso;grind)
 ·rw[c,ahM];rfl
 ·have:=ahH (show 0 < -x by grind) c;rcases cL (x*y) with k|k|k<;>first|(rw [k.2];decide)|(exfalso;grind)
 ·rw[a,agJ];rfl
 ·rw[a,agJ];rfl
 ·rw[a,agJ];rfl
 ·have:=ahH a (show 0 < -y by grind);rcases cL (x*y) with k|k|k<;>first|(rw [k.2];decide)|(exfalso;grind)
 ·rw[c,ahM];rfl
 ·have:=ahH a c;rcases cL (x*y) with k|k|k<;>first|(rw [k.2];decide)|(exfalso;grind)
theorem C7{c:Rat}(hc:c≠0):∀(n:Nat) (p d:List Rat),aQ d=false→chainF n (a7 c p) (a7 c d)=(chainF n p d).map (a7 c)
 |0,p,d,_=>rfl
 |n+1,p,d,hd=>by
  by_cases h:d=[]
  ·rw[h];show chainF (n+1) (a7 c p) []=_;rw[j5,j5];rfl
  ·have h2:a7 c d≠[]:=fun e=>h (afP (by have:=ah8 List.length e;rwa[gC] at this))
   rw[gN h2,gN h,agD,MY hd h hc hc];have e:aO (a7 (-1) (a7 c (cb p d)))=a7 c (aO (a7 (-1) (cb p d))):=by refine kV (bj _) (iB (bj _) c hc) (fun i => ?_);rw[dW,bZ,bZ,bZ,dW,bZ];grind
   rw[e,C7 hc n d _ (bj _)]
theorem xW(p:List Rat)(j:Nat):coef (an p) j=((1+j:Nat):Int)*coef p (j+1):=by
 have HQ:∀(q:List Rat) (i j:Nat),coef (gz i q) j=((i+j:Nat):Int)*coef q j:=by
  intro q
  induction q with
  |nil=>intro i j;show(0:Rat)=_*0;grind
  |cons a q ih =>
   intro i j;cases j with
   |zero=>show((i:Int):Rat)*a=_;rfl
   |succ j=>exact(ih (i+1) j).trans (by rw[show i+1+j=i+(j+1) by omega];rfl)
 unfold an;rw[dW,HQ]
 congr 1
 cases p with
 |nil=>rfl
 |cons a p=>rfl
theorem IW{c:Rat}(hc:c≠0)(p:List Rat):an (a7 c p)=a7 c (an p):=by refine kV (bc _) (iB (bc _) c hc) (fun i => ?_);rw[xW,bZ,bZ,xW];grind
theorem Sj{c:Rat}(hc:c≠0)(f:List Rat)(x:Rat):cS (a7 c f) x=cS f x:=by
 unfold cS;rw[gC,IW hc,C7 hc _ _ _ (bc f)];unfold eZ;rw[aia];rcases CI hc with k|k
 ·congr 1
  refine ahW (fun g _ => ?_);show sg (evalL (a7 c g) x)=_;rw[aX,L7,k];omega
 ·have e:(chainF f.length f (an f)).map ((fun g=>sg (evalL g x)) ∘ a7 c)=((chainF f.length f (an f)).map (fun g=>sg (evalL g x))).map (fun a => -a):=by
   rw[aia];refine ahW (fun g _ => ?_);show sg (evalL (a7 c g) x) = - sg (evalL g x);rw[aX,L7,k];omega
  rw[e];exact ze _ 0
theorem C8{p:List Rat}(hz:aQ p=false)(h0:p≠[])(hc:rK p (an p)):aY p=a7 (1/bx p) p:=by
 have hg:=CC hz (bc p) hc;unfold aY;rw[hg];have hd:=Cx (p:=p) (q:=[1]) (a:=p) (r:=[]) (by decide) (by simp) hz rfl (by simp) (fun x=>by rw[eJ];show _+(0:Rat)=_;grind)
 rw[hd];exact nv hz h0
theorem KB{p:List Rat}(hz:aQ p=false)(h0:p≠[])(hc:rK p (an p)){lo hi:Rat}(hle:lo≤hi)(h:xQ p lo hi=true):rC p lo hi:=by
 have hf:=C8 hz h0 hc;have ht:=cP hz h0;have Zh:(1:Rat)/bx p≠0:=fun e=>by have:=agj (a:=1) ht;rw[e] at this;grind
 have hch:∀x,eZ (aZ p) x=cS p x:=fun x=>by show cS (aY p) x=cS p x;rw[hf];exact Sj Zh p x
 have u7:∀x,evalL (aY p) x=1/bx p*evalL p x:=fun x=>by rw[hf,aX]
 unfold xQ at h;refine⟨hz,h0,hc,?_⟩;by_cases he:lo=hi
 ·rw[agq he,afZ,ahO,u7] at h;rcases agV.1 h with k|k
  ·exact absurd k Zh
  ·exact Or.inl ⟨he,k⟩
 ·rw[ags he,agf,afX,ahO,ahO,hch,hch] at h;have nz:∀x,sg (evalL (aY p) x)≠0→evalL p x≠0:=fun x hx e=>hx (by rw[u7,e,ahM];rfl)
  refine Or.inr ⟨by grind,nz lo (fun e => ?_),nz hi (fun e => ?_),h.2⟩
  ·rw[e] at h;have:=h.1;omega
  ·rw[e] at h;have:=h.1;omega
open Path
theorem VJ{k m:Nat}{p:List ag}(h:sE k p)(hk:k≤m):sE m p:=fun a ha=>⟨ag3 (h a ha).1 hk,ag3 (h a ha).2 hk⟩
theorem XV:4*xB 8 70 (6+2)+10≤68719476736:=by decide
def Ng(n:Int)(b:Nat):Rat:=Rat.divInt n ((2^b:Nat):Int)
theorem two_pos(b:Nat):(0:Int)<((2^b:Nat):Int):=by have:=aj6 (n:=b) (show 0<2 by omega);omega
theorem VK{n:Int}(h:n.natAbs<4294967296^4):wl n≤4:=mU h
namespace wM
theorem scaled(n:Int)(hn:wl n≤1000){b:Nat}(hb:b≤64):Cp 71 [(Sym.whole n).pv,vI (b:Int)] (.aF [(aI (Ng n b)).pv,.ay]):=by
 have w2:∀t:Nat,t≤64→wl (((2^t:Nat):Int))≤4:=fun t ht=>VK (by rw[agi];have:2^t≤2^64:=ag6 (by omega) ht;omega)
 have loop:∀d t:Nat,t+d=b→ir.ai (b:Int) t (Sym.whole n) (Sym.whole ((2^t:Nat):Int)) (.aF [(aI (Ng n b)).pv,.ay]):=by
  intro d
  induction d with
  |zero =>
   intro t ht;have:t=b:=by omega
   subst this;have hf:=tf.Vc (Sym.whole n) (Sym.whole ((2^t:Nat):Int)) (by rw[nt];omega) (by rw[nt];have:=w2 t hb;omega) (by rw[aC];have:=two_pos t;omega);rw[aC,aC] at hf;exact ir.c9 _ t _ _ _ none (by omega) hf
  |succ d ih =>intro t ht;have hw:=w2 t (by omega);have ha:=cF.Add (Sym.whole ((2^t:Nat):Int)) (Sym.whole ((2^t:Nat):Int)) (by show _≤_;rw[nt];omega) (by show _≤_;rw[nt];omega);rw[aC,show((2^t:Nat):Int)+((2^t:Nat):Int)=((2^(t+1):Nat):Int) by rw[agb];omega] at ha;exact ir.l10 _ t _ _ _ (by omega) ha (by omega) (ih (t+1) (by omega))
 exact ir.e0 (Sym.whole n) _ (Sym.whole 1) (cF.Of 1 (by unfold az;omega)) (loop b 0 (by omega))
theorem ab3{x:Rat}(hx:ht x≤1000){b:Nat}(hb:b≤64):Cp 136 [(aI x).pv,vI (b:Int)] (Sym.whole (x*twP b).floor).pv:=by
 have S8:∀t,t≤64→ht (x*twP t)≤2000:=fun t h=>by have h1:=pA x (twP t);have h2:=VB (j:=t) (by omega);omega
 have loop:∀d t:Nat,t+d=b→jW.ai (b:Int) t (aI (x*twP t)) (Sym.whole (x*twP b).floor).pv:=by
  intro d
  induction d with
  |zero =>
   intro t h;have:t=b:=by omega
   subst this;have hh:=S8 t hb;have hf:=bK hh;have:=tf.Xs (aI (x*twP t)) ⟨by omega,by omega⟩;rw[b9] at this;exact jW.c9 _ t _ _ (by omega) this
  |succ d ih =>intro t h;have hh:=S8 t (by omega);have ha:=QF.Add (x*twP t) (x*twP t) (by omega) (by omega);rw[show x*twP t+x*twP t=x*twP (t+1) by rw[j6];grind] at ha;exact jW.l10 _ t _ _ (by omega) ha (by omega) (ih (t+1) (by omega))
 have:=loop b 0 (by omega);rw[xO,ajR] at this;exact jW.e0 _ _ this
end wM
namespace wM
theorem Ts{p:List Rat}(f:dN 7 6 p)(h1:Bd p)(ok:sZ 7 6):Cp 26 [pq p] (.aF [dp bk.cells ((kY 7 6 p).map (fun r=>fv (aY p) r.1 r.2)),.ay]):=by
 have hi:=Ha.LV f h1 ok;have hF:=As.PR f;have hlen:=Ha.xS f h1 ok;have loop:∀d t:Nat,t+d=(kY 7 6 p).length→dP.ai (p.map aI) (((kY 7 6 p).take t).map (fun r=>fv (aY p) r.1 r.2)) (mkGs (kY 7 6 p)) t (.aF [dp bk.cells ((kY 7 6 p).map (fun r=>fv (aY p) r.1 r.2)),.ay]):=by
  intro d
  induction d with
  |zero =>intro t h;rw[show (kY 7 6 p).take t=kY 7 6 p from agd (by omega)];exact dP.kA _ _ _ t (by rw[ue];omega)
  |succ d ih =>
   intro t h;obtain⟨v,hv⟩:∃v,(kY 7 6 p)[t]? = some v:=⟨_,afO (by omega)⟩;have EC:(mkGs (kY 7 6 p))[t]? = some (sY v.1 v.2):=by unfold mkGs;rw[afT,hv];rfl
   have ih:=ih (t+1) (by omega);rw[agH,hv,agU] at ih;exact dP.l10 _ _ _ t (sY v.1 v.2) _ (by rw[ue];omega) EC hF (by rw[agB,afW,agh,ahj];omega) (by omega) ih
 exact dP.e0 _ _ hi (loop (kY 7 6 p).length 0 (agQ _))
end wM
def xX(v:ag):Bool := !v.neg&&v.num.isEmpty&&v.den.isEmpty
def Nh(a:List ag):Nat→List ag
 |0=>if (a.take 1).all xX then [] else a.take 1
 |k+1=>if ((a.take (2^(k+1))).drop (2^k)).all xX then Nh a k else a.take (2^(k+1))
theorem ui{α:Type}{p:α→Bool}{l:List α}{t:Nat}{v:α}(h:l[t]? = some v):(l.drop t).all p=(p v&&(l.drop (t+1)).all p):=by rw[drop_cons h,List.all_cons]
namespace tc
theorem E1{k:Nat}(h:k≤10):1*2^k<9223372036854775808:=by have:2^k≤2^10:=ag6 (by omega) h;omega
theorem level{a:List ag}{k:Nat}(hk:k≤10)(h:a.length=2^k):Cp 114 [ae a] (vI (k:Int)):=by
 have loop:∀d t:Nat,t+d=k→bS.ai a t (vI (k:Int)):=by
  intro d
  induction d with
  |zero =>
   intro t ht;have:t=k:=by omega
   subst this;exact bS.kA a t (by omega) (E1 hk) (by omega) (by omega)
  |succ d ih =>intro t ht;have:2^t<2^k:=ahR (by omega) (by omega);exact bS.l10 a t (by omega) (E1 (by omega)) (by omega) (by omega) (ih (t+1) (by omega))
 exact bS.e0 a (loop k 0 (by omega))
theorem E2:Cp 114 [ae []] (vI (-1)) :=
 bS.e0 [] (bS.c9 [] 0 (by omega) (by decide) (by decide) (by decide))
theorem empty(a:List ag)(hl:a.length≤1000):Cp 115 [ae a] (vB (a.all xX)):=by
 have loop:∀d t:Nat,a.length-t=d→iG.ai a t (vB ((a.drop t).all xX)):=by
  intro d
  induction d with
  |zero =>intro t hd;rw[agv (by omega)];exact iG.Dp a t (by omega)
  |succ d ih =>
   intro t hd;obtain⟨v,hv⟩:∃v,a[t]? = some v:=⟨_,afO (by omega)⟩;rw[ui hv];unfold xX;by_cases h1:v.neg=true
   ·rw[h1];exact iG.l10 a t v (by omega) hv h1
   ·rw[ah5] at h1;rw[h1];by_cases h2:v.num=[]
    ·rw[h2];by_cases h3:v.den=[]
     ·rw[h3];exact iG.uA a t v (by omega) hv h1 (by rw[h2];simp) (by rw[h3];simp) (by omega) (ih (t+1) (by omega))
     ·rw[show v.den.isEmpty=false from by cases hh:v.den<;>simp_all];exact iG.kA a t v (by omega) hv h1 (by rw[h2];simp) (ag8.2 h3)
    ·rw[show v.num.isEmpty=false from by cases hh:v.num<;>simp_all];exact iG.c9 a t v (by omega) hv h1 (ag8.2 h2)
 have:=loop _ 0 rfl;rw[ah3] at this;exact iG.e0 a this
theorem copied(a:List ag)(hl:a.length≤1000)(hf:sE 1073741824 a):Cp 78 [ae a] (ae a):=by
 have loop:∀d t:Nat,a.length-t=d→t≤a.length→mC.ai (a.take t) a t (ae a):=by
  intro d
  induction d with
  |zero =>intro t hd ht;rw[show a.take t=a from agd (by omega)];exact mC.c9 a a t (by omega)
  |succ d ih =>intro t hd ht;obtain⟨v,hv⟩:∃v,a[t]? = some v:=⟨_,afO (by omega)⟩;have:=ih (t+1) (by omega) (by omega);rw[agH,hv] at this;have f:=hf v (ag4 hv);exact mC.l10 _ a t v (by omega) hv (by rw[ahZ];have:=f.1;omega) (by rw[ahZ];have:=f.2;omega) (by rw[agB,agh,ahj];omega) (by omega) this
 exact mC.e0 a (loop _ 0 rfl (by omega))
theorem zh:Cp 59 [ae []] (ae []) :=
 gK.e3 [] (-1) E2 (by decide) (gK.l16 [] 0 [] (by omega) (by omega) (by decide) (copied [] (by decide) (by intro x h;cases h)))
theorem Qa{a:List ag}{k:Nat}(hk:k≤5)(h:a.length=2^k)(hf:sE 1073741824 a):Cp 59 [ae a] (ae (Nh a k)):=by
 have tk:∀n,sE 1073741824 (a.take n):=fun n x hx=>hf x (aiP hx)
 have b5:2^k≤2^5:=ag6 (by omega) hk;have loop:∀t:Nat,t≤k→gK.ai a (2^t) (ae (Nh a t)):=by
  intro t
  induction t with
  |zero =>
   intro _;have p0:0<2^k:=agL _;have e:=empty (a.take 1) (by rw[agh];omega);unfold Nh;by_cases hb:(a.take 1).all xX=true
   ·rw[ag9 hb];exact gK.Dp a 1 _ (by omega) rfl (by omega) e hb
   ·rw[ag7 hb];exact gK.Xc a 1 _ _ (by omega) rfl (by omega) e (by rwa[ah5] at hb) (by omega) (copied _ (by rw[agh];omega) (tk 1))
  |succ t ih =>
   intro ht;have le:2^(t+1)≤2^k:=ag6 (by omega) ht;have p0:0<2^t:=agL _;have hh:2^(t+1)/2=2^t:=by rw[agb];omega
   have h2:1<2^(t+1):=by rw[agb];omega
   have e:=empty ((a.take (2^(t+1))).drop (2^t)) (by rw[ahT,agh];omega);unfold Nh;by_cases hb:((a.take (2^(t+1))).drop (2^t)).all xX=true
   ·rw[ag9 hb];exact gK.l10 a _ _ h2 (by omega) (by omega) (by omega) (by rw[hh];exact e) hb (by rw[hh];exact ih (by omega))
   ·rw[ag7 hb];exact gK.uA a _ _ _ h2 (by omega) (by omega) (by omega) (by rw[hh];exact e) (by rwa[ah5] at hb) (by omega) (copied _ (by rw[agh];omega) (tk _))
 have:=loop k (afY _);rw[←h] at this;have p0:0<2^k:=agL _;exact gK.e2 a (k:Int) (level (by omega) h) (by omega) (by omega) (by omega) this
end tc
def pN(q:List Rat):Bool:=q.all (fun x=>decide (x=0))
def wideL(q:List Rat)(n:Nat):List Rat:=q.take n++List.replicate (n-q.length) 0
def j8(p q:List Rat):List Rat:=List.zipWith (·+·) (wideL p (max p.length q.length)) (wideL q (max p.length q.length))
theorem cM(q:List Rat)(n:Nat):(wideL q n).length=n:=by unfold wideL;rw[agB,agh,ahb];omega
theorem uF{α:Type}{l1 l2:List α}{v w:α}{t:Nat}(h:l1.length=t):(l1++v::l2).set t w=(l1++[w])++l2:=by subst h;simp
namespace tc
theorem zero(q:List Rat)(hl:q.length≤1000)(hf:Fl 68719476736 q):Cp 116 [pq q] (vB (pN q)):=by
 have loop:∀d t:Nat,q.length-t=d→nm.ai (q.map aI) t (vB (pN (q.drop t))):=by
  intro d
  induction d with
  |zero =>intro t hd;rw[agv (by omega)];exact nm.kA _ t (by rw[afW];omega)
  |succ d ih =>
   intro t hd;obtain⟨v,hv⟩:∃v,q[t]? = some v:=⟨_,afO (by omega)⟩;have EC:(q.map aI)[t]? = some (aI v):=by rw[afT,hv];rfl
   have s:=QF.Sign v (hf v (ag4 hv));unfold pN;rw[ui hv];by_cases h0:v=0
   ·rw[agq h0];exact nm.c9 _ t _ _ (by rw[afW];omega) EC s (hJ.2 h0) (by omega) (ih (t+1) (by omega))
   ·rw[ags h0];exact nm.l10 _ t _ _ (by rw[afW];omega) EC s (fun e=>h0 (hJ.1 e))
 have:=loop _ 0 rfl;rw[ah3] at this;exact nm.e0 _ this
theorem minus(q:List Rat)(hl:q.length≤1000)(hf:Fl 68719476736 q):Cp 66 [pq q] (pq (q.map (- ·))):=by
 have loop:∀d t:Nat,q.length-t=d→t≤q.length→nT.ai (q.map aI) t (((q.take t).map (- ·)).map aI++List.replicate d (⟨false,[],[]⟩:ag)) (pq (q.map (- ·))):=by
  intro d
  induction d with
  |zero =>intro t hd ht;rw[show q.take t=q from agd (by omega),aiT,aif];exact nT.c9 _ t _ (by rw[afW];omega) (by simp)
  |succ d ih =>
   intro t hd ht;obtain⟨v,hv⟩:∃v,q[t]? = some v:=⟨_,afO (by omega)⟩;have EC:(q.map aI)[t]? = some (aI v):=by rw[afT,hv];rfl
   have s:=QF.Neg v (hf v (ag4 hv));have:=ih (t+1) (by omega) (by omega);rw[agH,hv] at this;refine nT.l10 _ t _ _ _ (by rw[afW];omega) EC s (by simp;omega) (by omega) ?_;rw[List.replicate_succ,uF (by simp;omega)];simpa using this
 have:=loop _ 0 rfl (by omega);refine nT.e0 _ (by rw[afW];omega) ?_;rw[afW];simpa using this
theorem GN(q:List Rat)(n:Nat):(q.map aI).take (min (q.map aI).length n)++(List.replicate n (⟨false,[],[]⟩:ag)).drop (min (q.map aI).length n)=(wideL q n).map aI:=by
 unfold wideL;rw[agU,ahP,ajt,nW,afW,List.drop_replicate];by_cases h:q.length≤n
 ·rw[ah0 h,agd (by simp),agd (by simp;omega)]
 ·rw[Nat.min_eq_right (by omega),aiq,show n-q.length=0 from by omega]
theorem wide(q:List Rat)(n:Nat)(hn:n≤1000):Cp 77 [pq q,vI (n:Int)] (pq (wideL q n)):=by have:=Cc.e0 (q.map aI) (n:Int) n rfl (by omega) (by rw[ahb];omega) (by rw[GN,afW,cM]);rwa[GN] at this
theorem IX(q:List Rat)(n:Nat)(hn:n≤1000):au bp 77 [.pv (pq q),.pv (vI (n:Int))] [] (.row 0 0 n 3) [(0,(.pure ((((wideL q n).map aI):List ag).map ag.cells).flatten))]:=by have:=zO.e0 (q.map aI) (n:Int) n rfl (by omega) (by rw[ahb];omega);rwa[GN,agd (by rw[afW,cM];omega)] at this
end tc
theorem AW{H:Nat}{q:List Rat}(n:Nat)(h:Fl H q)(h1:1≤H):Fl H (wideL q n):=fun x hx=>by
 unfold wideL at hx;rcases ah6.1 hx with hx|hx
 ·exact h x (aiP hx)
 ·rw[(List.mem_replicate.1 hx).2];exact ag3 (show ht 0≤1 by decide) h1
theorem GO(x:Rat):xX (aI x)=decide (x=0):=by
 by_cases h:x=0
 ·subst h;rfl
 ·rw[ags h];refine ahv.2 fun e=>h ?_
  apply Lt;rw[nW];unfold xX at e;rcases hm:aI x with ⟨a,b,c⟩
  rw[hm] at e;simp at e;obtain⟨⟨rfl,rfl⟩,rfl⟩:=e;rfl
namespace tc
theorem plus(p q:List Rat)(hp:p.length≤1000)(hq:q.length≤1000)(fp:Fl 68719476736 p)(fq:Fl 68719476736 q):Cp 61 [pq p,pq q] (pq (j8 p q)):=by
 unfold j8;have ln:max (p.map aI).length (q.map aI).length=max p.length q.length:=by rw[afW,afW]
 generalize hn:max p.length q.length=n at *;have wx:=IX p n (by omega);have w:=wide q n (by omega);have hA:=cM p n;have hB:=cM q n;have fA:=AW n fp (by omega);have fB:=AW n fq (by omega);generalize wideL p n=A at *;generalize wideL q n=B at *;have loop:∀d t:Nat,n-t=d→t≤n→py.ai n (B.map aI) t ((List.zipWith (·+·) (A.take t) (B.take t)++A.drop t).map aI) (pq (List.zipWith (·+·) A B)):=by
  intro d
  induction d with
  |zero =>intro t hd ht;rw[show A.take t=A from agd (by omega),show B.take t=B from agd (by omega),agv (by omega),aif];exact py.c9 n _ t _ (by omega) (by simp;omega)
  |succ d ih =>
   intro t hd ht;obtain⟨v,hv⟩:∃v,A[t]? = some v:=⟨_,afO (by omega)⟩;obtain⟨u,hu⟩:∃v,B[t]? = some v:=⟨_,afO (by omega)⟩;have hl:(List.zipWith (·+·) (A.take t) (B.take t)).length=t:=by simp;omega
   have:=ih (t+1) (by omega) (by omega);rw[agH,agH,hv,hu] at this;refine py.l10 n _ t _ (aI v) (aI u) (aI (v+u)) (by omega) ?_ (by rw[afT,hu];rfl) (QF.Add v u (fA v (ag4 hv)) (fB u (ag4 hu))) (by simp;omega) (by omega) ?_
   ·rw[afT,aha (by omega),hl,aiq,agS,ahw,hv];rfl
   ·rw[drop_cons hv,agU,agD,uF (by rw[afW];exact hl)];rw[List.zipWith_append (by simp;omega)] at this;simpa using this
 have:=loop _ 0 rfl (by omega);refine py.e0 _ _ (A.map aI) n (B.map aI) (by rw[ln];exact wx) (by rw[ln];exact w) ?_;simpa using this
def Qb(p q:List Rat):List Rat:=if pN p||pN q then [] else [p.headD 0*q.headD 0]
theorem VL(t:aA)(p q:List Rat)(hp:p.length≤1)(hq:q.length≤1)(fp:Fl 68719476736 p)(fq:Fl 68719476736 q):Cp 60 [t.pv,pq p,pq q] (pq (Qb p q)):=by
 have zp:=zero p (by omega) fp;have zq:=zero q (by omega) fq;unfold Qb;by_cases h:p.length<q.length
 ·have jy:p=[]:=afP (by omega);subst jy;rw[show pN []=true from rfl,Bool.true_or,ag9 rfl];by_cases hz:pN q=true
  ·exact dY.e0 t _ _ _ (by simpa using h) zq hz
  ·exact dY.e1 t _ _ _ _ (by simpa using h) zq (by rwa[Bool.not_eq_true] at hz) zp rfl
 ·by_cases hz:pN p=true
  ·rw[hz,Bool.true_or,ag9 rfl];exact dY.e5 t _ _ _ (by simpa using h) zp hz
  ·rw[ah5] at hz;rw[hz,Bool.false_or];by_cases hy:pN q=true
   ·rw[ag9 hy];exact dY.e6 t _ _ _ _ (by simpa using h) zp hz zq hy
   ·rw[ag7 hy];rw[ah5] at hy;rcases p with _|⟨x,p⟩
    ·cases hz
    rcases q with _|⟨y,q⟩
    ·cases hy
    have e1:p=[]:=afP (by rw[agn] at hp;omega);have e2:q=[]:=afP (by rw[agn] at hq;omega);subst e1 e2;have m:=QF.Mul x y (fp x (by simp)) (fq y (by simp));exact dY.e7 t [aI x] [aI y] _ _ (aI x) (aI y) (aI (x*y)) (by simp) zp hz zq hy (by simp) (by simp) (by simp) m
end tc
end Go.Proofs.YtcpnocgollpbhaaGreatDoor.Sym
namespace Go.Proofs.YtcpnocgollpbhaaGreatDoor.Sym
set_option linter.unusedVariables false
structure Tw where
 d:Rat
 e:Rat
 f:Rat
structure Q4 (T:Tw) where
 x:Rat
 y:Rat
 z:Rat
 w:Rat
namespace Q4
variable {T:Tw}
theorem ext'{a b:Q4 T}(h1:a.x=b.x)(h2:a.y=b.y)(h3:a.z=b.z)(h4:a.w=b.w):a=b:=by cases a;cases b;simp only at h1 h2 h3 h4;subst h1 h2 h3 h4;rfl
def rL(q:Rat):Q4 T:=⟨q,0,0,0⟩
instance:Add (Q4 T):=⟨fun a b=>⟨a.x+b.x,a.y+b.y,a.z+b.z,a.w+b.w⟩⟩
instance:Neg (Q4 T):=⟨fun a=>⟨-a.x, -a.y, -a.z, -a.w⟩⟩
instance:Sub (Q4 T):=⟨fun a b=>⟨a.x-b.x,a.y-b.y,a.z-b.z,a.w-b.w⟩⟩
instance:Mul (Q4 T):=⟨fun a b=>⟨
 a.x*b.x+a.y*b.y*T.d+((a.z*b.z+a.w*b.w*T.d)*T.e+(a.z*b.w+a.w*b.z)*T.f*T.d),
 a.x*b.y+a.y*b.x+((a.z*b.z+a.w*b.w*T.d)*T.f+(a.z*b.w+a.w*b.z)*T.e),
 a.x*b.z+a.y*b.w*T.d+(a.z*b.x+a.w*b.y*T.d),
 a.x*b.w+a.y*b.z+(a.z*b.y+a.w*b.x)⟩⟩
instance (n:Nat):OfNat (Q4 T) n:=⟨rL (n:Rat)⟩
instance:NatCast (Q4 T):=⟨fun n=>rL (n:Rat)⟩
instance:IntCast (Q4 T):=⟨fun n=>rL (n:Rat)⟩
instance:SMul Nat (Q4 T):=⟨fun n a=>rL (n:Rat)*a⟩
instance:SMul Int (Q4 T):=⟨fun n a=>rL (n:Rat)*a⟩
def pow(a:Q4 T):Nat→Q4 T
 |0=>1
 |n+1=>pow a n*a
instance:HPow (Q4 T) Nat (Q4 T):=⟨pow⟩
theorem jM(a b:Q4 T):(a+b).x=a.x+b.x:=rfl
theorem jw(a b:Q4 T):(a+b).y=a.y+b.y:=rfl
theorem iK(a b:Q4 T):(a+b).z=a.z+b.z:=rfl
theorem iM(a b:Q4 T):(a+b).w=a.w+b.w:=rfl
theorem C9(a:Q4 T):(-a).x = -a.x:=rfl
theorem xY(a:Q4 T):(-a).y = -a.y:=rfl
theorem vz(a:Q4 T):(-a).z = -a.z:=rfl
theorem vA(a:Q4 T):(-a).w = -a.w:=rfl
theorem Tt(a b:Q4 T):(a-b).x=a.x-b.x:=rfl
theorem Tu(a b:Q4 T):(a-b).y=a.y-b.y:=rfl
theorem Tv(a b:Q4 T):(a-b).z=a.z-b.z:=rfl
theorem Tx(a b:Q4 T):(a-b).w=a.w-b.w:=rfl
theorem gW(a b:Q4 T):(a*b).x=a.x*b.x+a.y*b.y*T.d+((a.z*b.z+a.w*b.w*T.d)*T.e+(a.z*b.w+a.w*b.z)*T.f*T.d):=rfl
theorem gP(a b:Q4 T):(a*b).y=a.x*b.y+a.y*b.x+((a.z*b.z+a.w*b.w*T.d)*T.f+(a.z*b.w+a.w*b.z)*T.e):=rfl
theorem gu(a b:Q4 T):(a*b).z=a.x*b.z+a.y*b.w*T.d+(a.z*b.x+a.w*b.y*T.d):=rfl
theorem gw(a b:Q4 T):(a*b).w=a.x*b.w+a.y*b.z+(a.z*b.y+a.w*b.x):=rfl
theorem pH:(0:Q4 T).x=0:=rfl
theorem qV:(0:Q4 T).y=0:=rfl
theorem sN:(0:Q4 T).z=0:=rfl
theorem sO:(0:Q4 T).w=0:=rfl
theorem Ty:(1:Q4 T).x=1:=rfl
theorem Tz:(1:Q4 T).y=0:=rfl
theorem TA:(1:Q4 T).z=0:=rfl
theorem TB:(1:Q4 T).w=0:=rfl
theorem L8(p q:Rat):(rL (p*q):Q4 T)=rL p*rL q:=by apply ext'<;>simp only[rL,gW,gP,gu,gw]<;>grind
instance:Lean.Grind.CommRing (Q4 T) where
 add_zero a:=by apply ext'<;>simp only[jM,jw,iK,iM,pH,qV,sN,sO]<;>grind
 add_comm a b:=by apply ext'<;>simp only[jM,jw,iK,iM]<;>grind
 add_assoc a b c:=by apply ext'<;>simp only[jM,jw,iK,iM]<;>grind
 mul_assoc a b c:=by apply ext'<;>simp only[gW,gP,gu,gw]<;>grind
 mul_one a:=by apply ext'<;>simp only[gW,gP,gu,gw,Ty,Tz,TA,TB]<;>grind
 one_mul a:=by apply ext'<;>simp only[gW,gP,gu,gw,Ty,Tz,TA,TB]<;>grind
 mul_comm a b:=by apply ext'<;>simp only[gW,gP,gu,gw]<;>grind
 left_distrib a b c:=by apply ext'<;>simp only[gW,gP,gu,gw,jM,jw,iK,iM]<;>grind
 right_distrib a b c:=by apply ext'<;>simp only[gW,gP,gu,gw,jM,jw,iK,iM]<;>grind
 zero_mul a:=by apply ext'<;>simp only[gW,gP,gu,gw,pH,qV,sN,sO]<;>grind
 mul_zero a:=by apply ext'<;>simp only[gW,gP,gu,gw,pH,qV,sN,sO]<;>grind
 pow_zero _:=rfl
 pow_succ _ _:=rfl
 ofNat_succ n:=by
  apply ext'
  ·exact Rat.natCast_add n 1
  all_goals (show (0:Rat)=0+0;grind)
 ofNat_eq_natCast _:=rfl
 nsmul_eq_natCast_mul _ _:=rfl
 neg_add_cancel a:=by apply ext'<;>simp only[jM,jw,iK,iM,C9,xY,vz,vA,pH,qV,sN,sO]<;>grind
 sub_eq_add_neg a b:=by apply ext'<;>simp only[jM,jw,iK,iM,C9,xY,vz,vA,Tt,Tu,Tv,Tx]<;>grind
 neg_zsmul i a:=by show rL ((-i:Int):Rat)*a = -(rL (i:Rat)*a);rw[ahl];apply ext'<;>simp only[rL,gW,gP,gu,gw,C9,xY,vz,vA]<;>grind
 zsmul_natCast_eq_nsmul _ _:=rfl
 intCast_ofNat _:=rfl
 intCast_neg i:=by show rL ((-i:Int):Rat) = -(rL (i:Rat));rw[ahl];apply ext'<;>simp only[rL,C9,xY,vz,vA]<;>grind
end Q4
structure tg (T:Tw) where
 s:R
 u:R
 s0:0≤s
 u0:0≤u
 hs:s*s=R.ofQ T.d
 hu:u*u=R.ofQ T.e+R.ofQ T.f*s
namespace Q4
variable {T:Tw} (K:tg T)
def v(a:Q4 T):R:=R.ofQ a.x+R.ofQ a.y*K.s+(R.ofQ a.z+R.ofQ a.w*K.s)*K.u
theorem E3(a b:Q4 T):(a+b).v K=a.v K+b.v K:=by simp only[v,jM,jw,iK,iM,R.oJ];grind
theorem TC(a:Q4 T):(-a).v K = -(a.v K):=by simp only[v,C9,xY,vz,vA,R.uP];grind
theorem IY(a b:Q4 T):(a-b).v K=a.v K-b.v K:=by simp only[v,Tt,Tu,Tv,Tx,R.GI];grind
theorem E4(q:Rat):(rL q:Q4 T).v K=R.ofQ q:=by simp only[v,rL,R.eg];grind
theorem s6(a b:Q4 T):(a*b).v K=a.v K*b.v K:=by
 have hs:=K.hs;have hu:=K.hu;simp only[v,gW,gP,gu,gw,R.oJ,R.qD];generalize K.s=s at *;generalize K.u=u at *;generalize R.ofQ T.d=d at *;generalize R.ofQ T.e=e at *;generalize R.ofQ T.f=f at *;generalize R.ofQ a.x=a0 at *;generalize R.ofQ a.y=a1 at *;generalize R.ofQ a.z=a2 at *;generalize R.ofQ a.w=a3 at *;generalize R.ofQ b.x=b0 at *;generalize R.ofQ b.y=b1 at *;generalize R.ofQ b.z=b2 at *;generalize R.ofQ b.w=b3 at *;subst hs;have e1:(a0+a1*s+(a2+a3*s)*u)*(b0+b1*s+(b2+b3*s)*u)=(a0+a1*s)*(b0+b1*s)+(a2+a3*s)*(b2+b3*s)*(u*u)+((a0+a1*s)*(b2+b3*s)+(a2+a3*s)*(b0+b1*s))*u:=by grind
 rw[e1,hu];grind
end Q4
end Go.Proofs.YtcpnocgollpbhaaGreatDoor.Sym
namespace Go.Proofs.YtcpnocgollpbhaaGreatDoor.Sym
set_option linter.unusedVariables false
def toQ(T:Tw)(l:List Rat):Q4 T:=⟨coef l 0,coef l 1,coef l 2,coef l 3⟩
def Lk(k:Nat)(l:List Rat):Prop:=l=[]∨∃j,j≤k∧l.length=2^j
def DU(T:Tw):Nat→Q4 T
 |0=>⟨0,1,0,0⟩
 |_+1=>⟨0,0,1,0⟩
def gx(T:Tw):Nat→List Rat
 |0=>[T.d]
 |_+1=>[T.e,T.f]
theorem kQ{l:List Rat}(h:l.length=1):∃x,l=[x]:=by
 match l,h with
 |[x],_=>exact⟨x,rfl⟩
theorem Qc{l:List Rat}(h:l.length=2):∃x y,l=[x,y]:=by
 match l,h with
 |[x,y],_=>exact⟨x,y,rfl⟩
theorem Sk{l:List Rat}(h:l.length=4):∃x y z w,l=[x,y,z,w]:=by
 match l,h with
 |[x,y,z,w],_=>exact⟨x,y,z,w,rfl⟩
theorem Lk.mono{k m:Nat}{l:List Rat}(h:Lk k l)(hk:k≤m):Lk m l:=by
 rcases h with h|⟨j,h1,h2⟩
 ·exact .inl h
 ·exact .inr ⟨j,by omega,h2⟩
theorem Lk.zero{l:List Rat}(h:Lk 0 l):l=[]∨∃x,l=[x]:=by
 rcases h with h|⟨j,h1,h2⟩
 ·exact .inl h
 ·have:j=0:=by omega
  subst this;exact .inr (kQ h2)
theorem Lk.cases{k:Nat}(hk:k≤2){l:List Rat}(h:Lk k l):l=[]∨(∃x,l=[x])∨(1≤k∧∃x y,l=[x,y])∨(2≤k∧∃x y z w,l=[x,y,z,w]):=by
 rcases h with h|⟨j,h1,h2⟩
 ·exact .inl h
 ·have:j=0∨j=1∨j=2:=by omega
  rcases this with rfl|rfl|rfl
  ·exact .inr (.inl (kQ h2))
  ·exact .inr (.inr (.inl ⟨h1,Qc h2⟩))
  ·exact .inr (.inr (.inr ⟨h1,Sk h2⟩))
theorem Lk.len{k:Nat}(hk:k≤2){l:List Rat}(h:Lk k l):l.length≤4:=by rcases h.cases hk with rfl|⟨x,rfl⟩|⟨_,x,y,rfl⟩|⟨_,x,y,z,w,rfl⟩<;>simp
theorem Lk.le{k:Nat}{l:List Rat}(h:Lk k l):l.length≤2^k:=by
 rcases h with rfl|⟨j,h1,h2⟩
 ·exact ago _
 ·rw[h2];exact ag6 (by omega) h1
theorem Lk.low{k:Nat}{l:List Rat}(h:Lk (k+1) l)(hn:l.length≠2^(k+1)):Lk k l:=by
 rcases h with rfl|⟨j,h1,h2⟩
 ·exact .inl rfl
 ·exact .inr ⟨j,by rcases Nat.lt_or_ge j (k+1) with h|h;omega;exact absurd (by rw[h2,show j=k+1 from by omega]) hn,h2⟩
theorem Lk.nC{k:Nat}{l:List Rat}(h:l.length=2^k):Lk k l := .inr ⟨k,afY _,h⟩
theorem Da(T:Tw){j:Nat}(hj:j≤1){a:List Rat}(h:a.length=2^(j+1)):toQ T a=toQ T (a.take (2^j))+toQ T (a.drop (2^j))*DU T j:=by
 have:j=0∨j=1:=by omega
 rcases this with rfl|rfl
 ·obtain⟨x,y,rfl⟩:=Qc h;apply Q4.ext'<;>simp only[Q4.jM,Q4.jw,Q4.iK,Q4.iM,Q4.gW,Q4.gP,Q4.gu,Q4.gw,toQ,DU,coef]<;>simp<;>grind
 ·obtain⟨x,y,z,w,rfl⟩:=Sk h;apply Q4.ext'<;>simp only[Q4.jM,Q4.jw,Q4.iK,Q4.iM,Q4.gW,Q4.gP,Q4.gu,Q4.gw,toQ,DU,coef]<;>simp<;>grind
theorem oM{j:Nat}{a:List Rat}(h:a.length=2^(j+1)):Lk j (a.take (2^j))∧Lk j (a.drop (2^j))∧(a.take (2^j)).length=2^j∧(a.drop (2^j)).length=2^j:=by
 have h2:2^(j+1)=2^j+2^j:=by rw[agb];omega
 have e1:(a.take (2^j)).length=2^j:=by rw[agh];omega
 have e2:(a.drop (2^j)).length=2^j:=by rw[ahT];omega
 exact⟨.nC e1,.nC e2,e1,e2⟩
theorem KC(T:Tw){j:Nat}(hj:j≤1){m s:List Rat}(hm:Lk j m)(hs:Lk j s):toQ T (wideL m (2^j)++wideL s (2^j))=toQ T m+toQ T s*DU T j∧(wideL m (2^j)++wideL s (2^j)).length=2^(j+1):=by
 refine⟨?_,by rw[agB,cM,cM,agb];omega⟩;have:j=0∨j=1:=by omega
 rcases this with rfl|rfl
 ·rcases hm.zero with rfl|⟨x,rfl⟩<;>rcases hs.zero with rfl|⟨y,rfl⟩ <;>
   apply Q4.ext'<;>simp only[Q4.jM,Q4.jw,Q4.iK,Q4.iM,Q4.gW,Q4.gP,Q4.gu,Q4.gw,toQ,DU,coef,wideL]<;>simp<;>grind
 ·rcases hm.cases (by omega) with rfl|⟨x,rfl⟩|⟨_,x,y,rfl⟩|⟨hh,_⟩
  ·rcases hs.cases (by omega) with rfl|⟨z,rfl⟩|⟨_,z,w,rfl⟩|⟨hh,_⟩
   ·apply Q4.ext'<;>simp only[Q4.jM,Q4.jw,Q4.iK,Q4.iM,Q4.gW,Q4.gP,Q4.gu,Q4.gw,toQ,DU,coef,wideL]<;>simp<;>grind
   ·apply Q4.ext'<;>simp only[Q4.jM,Q4.jw,Q4.iK,Q4.iM,Q4.gW,Q4.gP,Q4.gu,Q4.gw,toQ,DU,coef,wideL]<;>simp<;>grind
   ·apply Q4.ext'<;>simp only[Q4.jM,Q4.jw,Q4.iK,Q4.iM,Q4.gW,Q4.gP,Q4.gu,Q4.gw,toQ,DU,coef,wideL]<;>simp<;>grind
   ·omega
  ·rcases hs.cases (by omega) with rfl|⟨z,rfl⟩|⟨_,z,w,rfl⟩|⟨hh,_⟩
   ·apply Q4.ext'<;>simp only[Q4.jM,Q4.jw,Q4.iK,Q4.iM,Q4.gW,Q4.gP,Q4.gu,Q4.gw,toQ,DU,coef,wideL]<;>simp<;>grind
   ·apply Q4.ext'<;>simp only[Q4.jM,Q4.jw,Q4.iK,Q4.iM,Q4.gW,Q4.gP,Q4.gu,Q4.gw,toQ,DU,coef,wideL]<;>simp<;>grind
   ·apply Q4.ext'<;>simp only[Q4.jM,Q4.jw,Q4.iK,Q4.iM,Q4.gW,Q4.gP,Q4.gu,Q4.gw,toQ,DU,coef,wideL]<;>simp<;>grind
   ·omega
  ·rcases hs.cases (by omega) with rfl|⟨z,rfl⟩|⟨_,z,w,rfl⟩|⟨hh,_⟩
   ·apply Q4.ext'<;>simp only[Q4.jM,Q4.jw,Q4.iK,Q4.iM,Q4.gW,Q4.gP,Q4.gu,Q4.gw,toQ,DU,coef,wideL]<;>simp<;>grind
   ·apply Q4.ext'<;>simp only[Q4.jM,Q4.jw,Q4.iK,Q4.iM,Q4.gW,Q4.gP,Q4.gu,Q4.gw,toQ,DU,coef,wideL]<;>simp<;>grind
   ·apply Q4.ext'<;>simp only[Q4.jM,Q4.jw,Q4.iK,Q4.iM,Q4.gW,Q4.gP,Q4.gu,Q4.gw,toQ,DU,coef,wideL]<;>simp<;>grind
   ·omega
  ·omega
theorem KD(T:Tw){j:Nat}(hj:j≤1):DU T j*DU T j=toQ T (gx T j):=by
 have:j=0∨j=1:=by omega
 rcases this with rfl|rfl<;>apply Q4.ext'<;>simp only[Q4.gW,Q4.gP,Q4.gu,Q4.gw,toQ,DU,gx,coef]<;>simp<;>grind
theorem pI(T:Tw){j:Nat}(hj:j≤1):(gx T j).length=2^j:=by
 have:j=0∨j=1:=by omega
 rcases this with rfl|rfl<;>rfl
theorem wE(q:List Rat)(n i:Nat):coef (wideL q n) i=if i<n then coef q i else 0:=by
 unfold wideL coef;by_cases h:i<min n q.length
 ·rw[ahz (by rw[agh];omega),agG,ag9 (by omega),ag9 (by omega)]
 ·rw[aha (by rw[agh];omega),ahk,agh];by_cases h2:i<n
  ·rw[ag9 h2,ag9 (by omega),agC (by omega)];rfl
  ·rw[ag7 h2,ag7 (by omega)];rfl
theorem KE(p q:List Rat)(i:Nat):coef (j8 p q) i=coef p i+coef q i:=by
 have e:coef (j8 p q) i=coef (wideL p (max p.length q.length)) i+coef (wideL q (max p.length q.length)) i:=by
  have l1:=cM p (max p.length q.length);have l2:=cM q (max p.length q.length);unfold j8;generalize wideL p (max p.length q.length)=A at *;generalize wideL q (max p.length q.length)=B at *;unfold coef;rw[List.getElem?_zipWith];by_cases h:i<max p.length q.length
  ·rw[afO (show i<A.length by omega),afO (show i<B.length by omega)];rfl
  ·rw[agC (show A.length≤i by omega),agC (show B.length≤i by omega)];show(0:Rat)=0+0;grind
 rw[e,wE,wE];by_cases h:i<max p.length q.length
 ·rw[ag9 h,ag9 h]
 ·rw[ag7 h,ag7 h];unfold coef;rw[agC (by omega),agC (by omega)];rfl
theorem Ni(p q:List Rat):(j8 p q).length=max p.length q.length:=by unfold j8;rw[List.length_zipWith,cM,cM,Nat.min_self]
theorem mN(T:Tw)(p q:List Rat):toQ T (j8 p q)=toQ T p+toQ T q:=by unfold toQ;simp only[KE];rfl
theorem oN{k:Nat}{p q:List Rat}(hp:Lk k p)(hq:Lk k q):Lk k (j8 p q):=by
 have hl:=Ni p q;rcases hp with rfl|⟨i,h1,h2⟩
 ·rcases hq with rfl|⟨j,k1,k2⟩
  ·exact .inl (afP (by simpa using hl))
  ·exact .inr ⟨j,k1,by rw[hl,aih,Nat.zero_max];exact k2⟩
 ·rcases hq with rfl|⟨j,k1,k2⟩
  ·exact .inr ⟨i,h1,by rw[hl,aih,Nat.max_zero];exact h2⟩
  ·rcases Nat.le_total i j with h|h
   ·exact .inr ⟨j,k1,by rw[hl,h2,k2];exact ajG (ag6 (by omega) h)⟩
   ·exact .inr ⟨i,h1,by rw[hl,h2,k2];exact ajL (ag6 (by omega) h)⟩
theorem Qd(q:List Rat)(i:Nat):coef (q.map (- ·)) i = -coef q i:=by
 unfold coef;rw[afT];cases q[i]? with
 |none=>show(0:Rat) = -0;grind
 |some v=>rfl
theorem vC(T:Tw)(q:List Rat):toQ T (q.map (- ·)) = -toQ T q:=by unfold toQ;simp only[Qd];rfl
theorem Db{k:Nat}{q:List Rat}(hq:Lk k q):Lk k (q.map (- ·)):=by
 rcases hq with rfl|⟨j,k1,k2⟩
 ·exact .inl rfl
 ·exact .inr ⟨j,k1,by rw[afW];exact k2⟩
def gX{T:Tw}(a:Q4 T):List Rat:=if a.z=0∧a.w=0 then (if a.y=0 then (if a.x=0 then [] else [a.x]) else [a.x,a.y]) else [a.x,a.y,a.z,a.w]
def Lv{T:Tw} : Nat→Q4 T→Prop
 |0,a=>a.y=0∧a.z=0∧a.w=0
 |1,a=>a.z=0∧a.w=0
 |_,_=>True
theorem dA{T:Tw}(a:Q4 T):toQ T (gX a)=a:=by
 unfold gX;split
 ·rename_i h;split
  ·rename_i h1;split
   ·rename_i h2;apply Q4.ext'<;>simp[toQ,coef,h.1,h.2,h1,h2]
   ·apply Q4.ext'<;>simp[toQ,coef,h.1,h.2,h1]
  ·apply Q4.ext'<;>simp[toQ,coef,h.1,h.2]
 ·apply Q4.ext'<;>simp[toQ,coef]
theorem mV{T:Tw}{k:Nat}{a:Q4 T}(h:Lv k a):Lk k (gX a):=by
 unfold gX
 match k,h with
 |0,h =>
  obtain⟨h1,h2,h3⟩:=h;rw[ag9 ⟨h2,h3⟩,ag9 h1];split
  ·exact .inl rfl
  ·exact .inr ⟨0,afY _,rfl⟩
 |1,h =>
  obtain⟨h2,h3⟩:=h;rw[ag9 ⟨h2,h3⟩];split
  ·split
   ·exact .inl rfl
   ·exact .inr ⟨0,ago _,rfl⟩
  ·exact .inr ⟨1,afY _,rfl⟩
 |k+2,_ =>
  split
  ·split
   ·split
    ·exact .inl rfl
    ·exact .inr ⟨0,ago _,rfl⟩
   ·exact .inr ⟨1,by omega,rfl⟩
  ·exact .inr ⟨2,by omega,rfl⟩
theorem E5{T:Tw}{k:Nat}{l:List Rat}(h:Lk k l):Lv k (toQ T l):=by
 match k,h with
 |0,h=>rcases h.cases (by omega) with rfl|⟨x,rfl⟩|⟨hh,_⟩|⟨hh,_⟩<;>first|exact⟨rfl,rfl,rfl⟩|omega
 |1,h=>rcases h.cases (by omega) with rfl|⟨x,rfl⟩|⟨_,x,y,rfl⟩|⟨hh,_⟩<;>first|exact⟨rfl,rfl⟩|omega
 |k+2,_=>exact True.intro
theorem L9(T:Tw){k:Nat}(hk:k≤2){q:List Rat}(hq:Lk k q):pN q=true↔toQ T q=0:=by
 rcases hq.cases hk with rfl|⟨x,rfl⟩|⟨_,x,y,rfl⟩|⟨_,x,y,z,w,rfl⟩
 ·exact⟨fun _=>rfl,fun _=>rfl⟩
 ·constructor
  ·intro h;simp[pN] at h;apply Q4.ext'<;>simp[toQ,coef,h,Q4.pH,Q4.qV,Q4.sN,Q4.sO]
  ·intro h;have:=ah8 Q4.x h;simp[toQ,coef,Q4.pH] at this;simp[pN,this]
 ·constructor
  ·intro h;simp[pN] at h;apply Q4.ext'<;>simp[toQ,coef,h,Q4.pH,Q4.qV,Q4.sN,Q4.sO]
  ·intro h;have h1:=ah8 Q4.x h;have h2:=ah8 Q4.y h;simp[toQ,coef,Q4.pH] at h1;simp[toQ,coef,Q4.qV] at h2;simp[pN,h1,h2]
 ·constructor
  ·intro h;simp[pN] at h;apply Q4.ext'<;>simp[toQ,coef,h,Q4.pH,Q4.qV,Q4.sN,Q4.sO]
  ·intro h;have h1:=ah8 Q4.x h;have h2:=ah8 Q4.y h;have h3:=ah8 Q4.z h;have h4:=ah8 Q4.w h;simp[toQ,coef,Q4.pH] at h1;simp[toQ,coef,Q4.qV] at h2;simp[toQ,coef,Q4.sN] at h3;simp[toQ,coef,Q4.sO] at h4;simp[pN,h1,h2,h3,h4]
def Tok(T:Tw):Prop:=∃A B a b c:Int,A≠0∧B≠0∧T.d*(A:Rat)=(a:Rat)∧T.e*(B:Rat)=(b:Rat)∧T.f*(B:Rat)=(c:Rat)∧wl A≤1∧wl B≤1∧wl a≤1∧wl b≤1∧wl c≤1
def Hq{T:Tw}(h:Nat)(a:Q4 T):Prop:=∃D i j k l:Int,D≠0∧wl D≤h∧a.x*(D:Rat)=(i:Rat)∧a.y*(D:Rat)=(j:Rat)∧a.z*(D:Rat)=(k:Rat)∧a.w*(D:Rat)=(l:Rat)∧wl i≤h∧wl j≤h∧wl k≤h∧wl l≤h
theorem IZ{i j:Int}{a:Nat}(h:wl i≤a)(k:wl j≤a):wl (i+j)≤a+1:=by have:=yL i j;omega
theorem Sl{i j:Int}{a b:Nat}(h:wl i≤a)(k:wl j≤b):wl (i*j)≤a+b:=by have:=eo i j;omega
theorem qW(h:Nat):wl 0≤h:=by rw[PF];exact ago _
namespace Hq
variable {T:Tw}
theorem mono{h k:Nat}{a:Q4 T}(ha:Hq h a)(hk:h≤k):Hq k a:=by obtain⟨D,i,j,m,l,h0,h1,h2,h3,h4,h5,h6,h7,h8,h9⟩:=ha;exact⟨D,i,j,m,l,h0,by omega,h2,h3,h4,h5,by omega,by omega,by omega,by omega⟩
theorem rL{q:Rat}{h:Nat}(hq:ht q≤h):Hq h (Q4.rL q:Q4 T):=by
 have h1:=eQ q;have h2:=fK q;have hz:∀D:Int,(0:Rat)*(D:Rat)=((0:Int):Rat):=fun D=>by rw[agJ];rfl
 refine⟨(q.den:Int),q.num,0,0,0,by have:=q.den_nz;omega,by omega,?_,hz _,hz _,hz _,by omega,qW _,qW _,qW _⟩;have:q=Rat.divInt q.num q.den:=(ai5 q).symm;have KU:(q.den:Int)≠0:=by have:=q.den_nz;omega
 show q*_=_
 conv=>lhs;lhs;rw[this]
 rw[agK,agj (qC KU)]
theorem neg{h:Nat}{a:Q4 T}(ha:Hq h a):Hq h (-a):=by obtain⟨D,i,j,m,l,h0,h1,h2,h3,h4,h5,h6,h7,h8,h9⟩:=ha;refine⟨D, -i, -j, -m, -l,h0,h1,?_,?_,?_,?_,by rw[gj];exact h6,by rw[gj];exact h7,by rw[gj];exact h8,by rw[gj];exact h9⟩<;>simp only[Q4.C9,Q4.xY,Q4.vz,Q4.vA,Rat.intCast_neg]<;>grind
theorem add{h k:Nat}{a b:Q4 T}(ha:Hq h a)(hb:Hq k b):Hq (h+k+1) (a+b):=by
 obtain⟨D,i,j,m,l,h0,h1,h2,h3,h4,h5,h6,h7,h8,h9⟩:=ha;obtain⟨D',i',j',m',l',g0,g1,g2,g3,g4,g5,g6,g7,g8,g9⟩:=hb;have w:∀{u v:Int},wl u≤h→wl v≤k→wl (u*D'+v*D)≤h+k+1:=fun hu hv=>IZ (Sl hu g1) (by have:=Sl hv h1;omega)
 refine⟨D*D',i*D'+i'*D,j*D'+j'*D,m*D'+m'*D,l*D'+l'*D,ai3 h0 g0,by have:=Sl h1 g1;omega,?_,?_,?_,?_,w h6 g6,w h7 g7,w h8 g8,w h9 g9⟩<;>simp only[Q4.jM,Q4.jw,Q4.iK,Q4.iM,Rat.intCast_add,Rat.intCast_mul]<;>grind
theorem mul{h k:Nat}(ht:Tok T){a b:Q4 T}(ha:Hq h a)(hb:Hq k b):Hq (h+k+8) (a*b):=by
 obtain⟨D,n0,n1,n2,n3,h0,h1,h2,h3,h4,h5,h6,h7,h8,h9⟩:=ha;obtain⟨D',m0,m1,m2,m3,g0,g1,g2,g3,g4,g5,g6,g7,g8,g9⟩:=hb;obtain⟨A,B,d,e,f,t0,t1,t2,t3,t4,t5,t6,t7,t8,t9⟩:=ht;have W:∀{u v p q:Int},wl u≤h→wl v≤k→wl p≤1→wl q≤1→wl (u*v*p*q)≤h+k+2:=fun a b c d=>by have:=Sl (Sl (Sl a b) c) d;omega
 refine⟨D*D'*A*B,
  n0*m0*A*B+n1*m1*d*B+(n2*m2*A*e+n3*m3*d*e+(n2*m3*f*d+n3*m2*f*d)),
  n0*m1*A*B+n1*m0*A*B+(n2*m2*A*f+n3*m3*d*f+(n2*m3*A*e+n3*m2*A*e)),
  n0*m2*A*B+n1*m3*d*B+(n2*m0*A*B+n3*m1*d*B),
  n0*m3*A*B+n1*m2*A*B+(n2*m1*A*B+n3*m0*A*B),
  ai3 (ai3 (ai3 h0 g0) t0) t1,by have:=Sl (Sl (Sl h1 g1) t5) t6;omega,?_,?_,?_,?_,?_,?_,?_,?_⟩
 ·simp only[Q4.gW,Rat.intCast_add,Rat.intCast_mul,←h2,←h3,←h4,←h5,←g2,←g3,←g4,←g5,←t2,←t3,←t4];grind
 ·simp only[Q4.gP,Rat.intCast_add,Rat.intCast_mul,←h2,←h3,←h4,←h5,←g2,←g3,←g4,←g5,←t2,←t3,←t4];grind
 ·simp only[Q4.gu,Rat.intCast_add,Rat.intCast_mul,←h2,←h3,←h4,←h5,←g2,←g3,←g4,←g5,←t2];grind
 ·simp only[Q4.gw,Rat.intCast_add,Rat.intCast_mul,←h2,←h3,←h4,←h5,←g2,←g3,←g4,←g5];grind
 ·have:=IZ (Nat.le_succ_of_le (IZ (W h6 g6 t5 t6) (W h7 g7 t7 t6))) (IZ (IZ (W h8 g8 t5 t8) (W h9 g9 t7 t8)) (IZ (W h8 g9 t9 t7) (W h9 g8 t9 t7)));omega
 ·have:=IZ (Nat.le_succ_of_le (IZ (W h6 g7 t5 t6) (W h7 g6 t5 t6))) (IZ (IZ (W h8 g8 t5 t9) (W h9 g9 t7 t9)) (IZ (W h8 g9 t5 t8) (W h9 g8 t5 t8)));omega
 ·have:=IZ (IZ (W h6 g8 t5 t6) (W h7 g9 t7 t6)) (IZ (W h8 g6 t5 t6) (W h9 g7 t7 t6));omega
 ·have:=IZ (IZ (W h6 g9 t5 t6) (W h7 g8 t5 t6)) (IZ (W h8 g7 t5 t6) (W h9 g6 t5 t6));omega
theorem part{h:Nat}{a b:Q4 T}(ha:Hq h a)(hb:∀c∈[b.x,b.y,b.z,b.w],c=0∨c=a.x∨c=a.y∨c=a.z∨c=a.w):Hq h b:=by
 obtain⟨D,i,j,m,l,h0,h1,h2,h3,h4,h5,h6,h7,h8,h9⟩:=ha;have key:∀c∈[b.x,b.y,b.z,b.w],∃n:Int,c*(D:Rat)=(n:Rat)∧wl n≤h:=fun c hc=>by
  rcases hb c hc with e|e|e|e|e
  ·exact⟨0,by rw[e,agJ];rfl,qW _⟩
  ·exact⟨i,by rw[e];exact h2,h6⟩
  ·exact⟨j,by rw[e];exact h3,h7⟩
  ·exact⟨m,by rw[e];exact h4,h8⟩
  ·exact⟨l,by rw[e];exact h5,h9⟩
 obtain⟨a1,b1,c1⟩:=key b.x (by simp);obtain⟨a2,b2,c2⟩:=key b.y (by simp);obtain⟨a3,b3,c3⟩:=key b.z (by simp);obtain⟨a4,b4,c4⟩:=key b.w (by simp);exact⟨D,a1,a2,a3,a4,h0,h1,b1,b2,b3,b4,c1,c2,c3,c4⟩
theorem XW{h:Nat}{l:List Rat}(ha:Hq h (toQ T l))(h1:1≤h){i:Nat}(hi:i<4):Sym.ht (coef l i)≤h:=by
 obtain⟨D,i0,j,m,l',h0,sQ,h2,h3,h4,h5,h6,h7,h8,h9⟩:=ha;have:i=0∨i=1∨i=2∨i=3:=by omega
 rcases this with rfl|rfl|rfl|rfl
 ·have:=oQ h0 h2;exact ag3 this (by omega)
 ·have:=oQ h0 h3;exact ag3 this (by omega)
 ·have:=oQ h0 h4;exact ag3 this (by omega)
 ·have:=oQ h0 h5;exact ag3 this (by omega)
theorem fl{h:Nat}{l:List Rat}(ha:Hq h (toQ T l))(h1:1≤h)(hl:l.length≤4):Fl h l:=fun x hx=>by obtain⟨i,hi,e⟩:=List.mem_iff_getElem.1 hx;have:=ha.XW h1 (i:=i) (by omega);unfold coef at this;rw[afO hi] at this;rw[←e];exact this
theorem zero{h:Nat}(h1:1≤h):Hq h (0:Q4 T):=rL (q:=0) (by rw[k7];exact h1)
theorem take{h j:Nat}{a:List Rat}(ha:Hq h (toQ T a)):Hq h (toQ T (a.take j)):=ha.part (fun c hc=>by
 have key:∀i,coef (a.take j) i=0∨coef (a.take j) i=coef a i:=fun i=>by
  unfold coef;rw[agG];split
  ·exact .inr rfl
  ·exact .inl rfl
 simp only[toQ,List.mem_cons,List.not_mem_nil,or_false] at hc ⊢;rcases hc with rfl|rfl|rfl|rfl
 ·rcases key 0 with e|e<;>rw[e]<;>simp
 ·rcases key 1 with e|e<;>rw[e]<;>simp
 ·rcases key 2 with e|e<;>rw[e]<;>simp
 ·rcases key 3 with e|e<;>rw[e]<;>simp)
theorem drop{h j:Nat}{a:List Rat}(hl:a.length≤4)(ha:Hq h (toQ T a)):Hq h (toQ T (a.drop j)):=ha.part (fun c hc=>by
 have key:∀i,coef (a.drop j) i=0∨coef (a.drop j) i=coef a 0∨coef (a.drop j) i=coef a 1∨coef (a.drop j) i=coef a 2∨coef (a.drop j) i=coef a 3:=fun i=>by
  unfold coef;rw[agS];by_cases hh:j+i<4
  ·have:j+i=0∨j+i=1∨j+i=2∨j+i=3:=by omega
   rcases this with e|e|e|e<;>rw[e]<;>simp
  ·left;rw[agC (by omega)];rfl
 simp only[toQ,List.mem_cons,List.not_mem_nil,or_false] at hc ⊢;rcases hc with rfl|rfl|rfl|rfl
 ·exact key 0
 ·exact key 1
 ·exact key 2
 ·exact key 3)
end Hq
theorem Tok.root{T:Tw}(h:Tok T)(j:Nat):Hq 1 (toQ T (gx T j)):=by
 obtain⟨A,B,d,e,f,t0,t1,t2,t3,t4,t5,t6,t7,t8,t9⟩:=h;have hz:∀D:Int,(0:Rat)*(D:Rat)=((0:Int):Rat):=fun D=>by rw[agJ];rfl
 match j with
 |0=>exact⟨A,d,0,0,0,t0,t5,t2,hz _,hz _,hz _,t7,qW _,qW _,qW _⟩
 |j+1=>exact⟨B,e,f,0,0,t1,t6,t3,t4,hz _,hz _,t8,t9,qW _,qW _⟩
def rv{T:Tw}(K:tg T):Nat→R
 |0=>K.s
 |_+1=>K.u
theorem Qe{T:Tw}(K:tg T)(j:Nat):0≤rv K j:=by
 match j with
 |0=>exact K.s0
 |j+1=>exact K.u0
theorem Qf{T:Tw}(K:tg T)(j:Nat):(DU T j).v K=rv K j:=by
 match j with
 |0=>show R.ofQ 0+R.ofQ 1*K.s+(R.ofQ 0+R.ofQ 0*K.s)*K.u=K.s;rw[R.eg,R.uQ];grind
 |j+1=>show R.ofQ 0+R.ofQ 0*K.s+(R.ofQ 1+R.ofQ 0*K.s)*K.u=K.u;rw[R.eg,R.uQ];grind
theorem Ma{T:Tw}(K:tg T){j:Nat}(hj:j≤1):rv K j*rv K j=(toQ T (gx T j)).v K:=by rw[←KD T hj,Q4.s6,Qf]
def lv{T:Tw}(K:tg T)(l:List Rat):R:=(toQ T l).v K
theorem VM{T:Tw}(K:tg T){j:Nat}(hj:j≤1){a:List Rat}(h:a.length=2^(j+1)):lv K a=lv K (a.take (2^j))+lv K (a.drop (2^j))*rv K j:=by unfold lv;rw[Da T hj h,Q4.E3,Q4.s6,Qf]
theorem xZ(x:R):R.fQ x=1∨R.fQ x=0∨R.fQ x = -1:=by
 rcases R.cV x with h|h|h
 ·exact .inl h.2
 ·exact .inr (.inl h.2)
 ·exact .inr (.inr h.2)
theorem Sm{T:Tw}(K:tg T){j:Nat}(hj:j≤1):R.fQ (lv K (gx T j))=0∨R.fQ (lv K (gx T j))=1:=by
 unfold lv;rw[←Ma K hj];have:=R.lH (Qe K j) (Qe K j);rcases R.cV (rv K j*rv K j) with h|h|h
 ·exact .inr h.2
 ·exact .inl h.2
 ·exact absurd this (by have:=h.1;grind)
theorem Mb{T:Tw}(K:tg T){j:Nat}(hj:j≤1){a:List Rat}(h:a.length=2^(j+1)){x y d n:R}(hx:lv K (a.take (2^j))=x)(hy:lv K (a.drop (2^j))=y)(hd:lv K (gx T j)=d)(hn:x*x-y*y*d=n) :
  (R.fQ d=0→R.fQ (lv K a)=R.fQ x)∧(R.fQ x=R.fQ y∨R.fQ y=0→R.fQ (lv K a)=R.fQ x) ∧
  (R.fQ d≠0→R.fQ x=0→R.fQ (lv K a)=R.fQ y) ∧
  (R.fQ d≠0→R.fQ x≠0→R.fQ y≠0→R.fQ x≠R.fQ y→R.fQ (lv K a)=R.fQ x*R.fQ n):=by
 subst hn hd;rw[VM K hj h,hx,hy];exact R.P8 (Qe K j) (Ma K hj)
theorem XX{T:Tw}(K:tg T)(q:Rat):R.fQ (lv K [q])=if q<0 then -1 else if q=0 then 0 else 1:=by
 have e:lv K [q]=R.ofQ q:=Q4.E4 K q;rw[e];split
 ·rename_i h;refine R.qF.2 ?_;rw[←R.eg];exact R.kK.2 h
 ·rename_i h;split
  ·rename_i h2;rw[h2];exact R.jv.2 R.eg
  ·rename_i h2;refine R.qE.2 (R.jh.2 ?_);grind
end Go.Proofs.YtcpnocgollpbhaaGreatDoor.Sym
namespace Go.Proofs.YtcpnocgollpbhaaGreatDoor.Sym
set_option linter.unusedVariables false
def AX{T:Tw} : Nat→Q4 T→Q4 T
 |0,a=>⟨a.x,0,0,0⟩
 |_+1,a=>⟨a.x,a.y,0,0⟩
def hiQ{T:Tw} : Nat→Q4 T→Q4 T
 |0,a=>⟨a.y,0,0,0⟩
 |_+1,a=>⟨a.z,a.w,0,0⟩
theorem ab5{T:Tw}{k:Nat}(hk:k≤1){a:Q4 T}(h:Lv (k+1) a):a=AX k a+hiQ k a*DU T k:=by
 have:k=0∨k=1:=by omega
 rcases this with rfl|rfl
 ·have h:a.z=0∧a.w=0:=h;apply Q4.ext'<;>simp only[Q4.jM,Q4.jw,Q4.iK,Q4.iM,Q4.gW,Q4.gP,Q4.gu,Q4.gw,DU,AX,hiQ,h.1,h.2]<;>grind
 ·apply Q4.ext'<;>simp only[Q4.jM,Q4.jw,Q4.iK,Q4.iM,Q4.gW,Q4.gP,Q4.gu,Q4.gw,DU,AX,hiQ]<;>grind
theorem Mc{T:Tw}{k:Nat}(hk:k≤1)(a:Q4 T):Lv k (AX k a):=by
 have:k=0∨k=1:=by omega
 rcases this with rfl|rfl
 ·exact⟨rfl,rfl,rfl⟩
 ·exact⟨rfl,rfl⟩
theorem Md{T:Tw}{k:Nat}(hk:k≤1)(a:Q4 T):Lv k (hiQ k a):=by
 have:k=0∨k=1:=by omega
 rcases this with rfl|rfl
 ·exact⟨rfl,rfl,rfl⟩
 ·exact⟨rfl,rfl⟩
theorem Lv.mul{T:Tw}{k:Nat}{a b:Q4 T}(ha:Lv k a)(hb:Lv k b):Lv k (a*b):=by
 match k,ha,hb with
 |0,ha,hb =>
  obtain⟨h1,h2,h3⟩:=ha;obtain⟨g1,g2,g3⟩:=hb;refine⟨?_,?_,?_⟩
  ·simp only[Q4.gP,h1,h2,h3,g1,g2,g3];grind
  ·simp only[Q4.gu,h1,h2,h3,g1,g2,g3];grind
  ·simp only[Q4.gw,h1,h2,h3,g1,g2,g3];grind
 |1,ha,hb =>
  obtain⟨h2,h3⟩:=ha;obtain⟨g2,g3⟩:=hb;refine⟨?_,?_⟩
  ·simp only[Q4.gu,h2,h3,g2,g3];grind
  ·simp only[Q4.gw,h2,h3,g2,g3];grind
 |k+2,_,_=>exact True.intro
theorem Lv.add{T:Tw}{k:Nat}{a b:Q4 T}(ha:Lv k a)(hb:Lv k b):Lv k (a+b):=by
 match k,ha,hb with
 |0,ha,hb =>
  obtain⟨h1,h2,h3⟩:=ha;obtain⟨g1,g2,g3⟩:=hb;refine⟨?_,?_,?_⟩
  ·simp only[Q4.jw,h1,g1];grind
  ·simp only[Q4.iK,h2,g2];grind
  ·simp only[Q4.iM,h3,g3];grind
 |1,ha,hb =>
  obtain⟨h2,h3⟩:=ha;obtain⟨g2,g3⟩:=hb;refine⟨?_,?_⟩
  ·simp only[Q4.iK,h2,g2];grind
  ·simp only[Q4.iM,h3,g3];grind
 |k+2,_,_=>exact True.intro
theorem Lv.neg{T:Tw}{k:Nat}{a:Q4 T}(ha:Lv k a):Lv k (-a):=by
 match k,ha with
 |0,ha =>
  obtain⟨h1,h2,h3⟩:=ha;refine⟨?_,?_,?_⟩
  ·simp only[Q4.xY,h1];grind
  ·simp only[Q4.vz,h2];grind
  ·simp only[Q4.vA,h3];grind
 |1,ha =>
  obtain⟨h2,h3⟩:=ha;refine⟨?_,?_⟩
  ·simp only[Q4.vz,h2];grind
  ·simp only[Q4.vA,h3];grind
 |k+2,_=>exact True.intro
theorem Lv.sub{T:Tw}{k:Nat}{a b:Q4 T}(ha:Lv k a)(hb:Lv k b):Lv k (a-b):=by
 have e:a-b=a + -b:=by grind
 rw[e];exact ha.add hb.neg
theorem Lv.mono{T:Tw}{k:Nat}{a:Q4 T}(ha:Lv k a):Lv (k+1) a:=by
 match k,ha with
 |0,ha=>exact⟨ha.2.1,ha.2.2⟩
 |k+1,_=>exact True.intro
theorem Lv.zero{T:Tw}(k:Nat):Lv k (0:Q4 T):=by
 match k with
 |0=>exact⟨rfl,rfl,rfl⟩
 |1=>exact⟨rfl,rfl⟩
 |k+2=>exact True.intro
theorem Lv.one{T:Tw}(k:Nat):Lv k (1:Q4 T):=by
 match k with
 |0=>exact⟨rfl,rfl,rfl⟩
 |1=>exact⟨rfl,rfl⟩
 |k+2=>exact True.intro
theorem Me(T:Tw){k:Nat}(hk:k≤1):Lv k (toQ T (gx T k)):=by
 have:k=0∨k=1:=by omega
 rcases this with rfl|rfl
 ·exact⟨rfl,rfl,rfl⟩
 ·exact⟨rfl,rfl⟩
def wF{T:Tw}(p:Nat→Nat→Q4 T)(i:Nat)(base:Nat→Q4 T):Nat→Nat→Q4 T
 |0,m=>base m
 |k+1,m=>if m=i+k then wF p i base k m+p i k else wF p i base k m
def I1{T:Tw}(p:Nat→Nat→Q4 T)(n:Nat):Nat→Nat→Q4 T
 |0,_=>0
 |i+1,m=>wF p i (I1 p n i) n m
theorem Sn{α β:Type}(g:α→β)(F:Nat→α)(N t:Nat)(v:α):((List.range N).map (fun m=>g (F m))).set t (g v)=(List.range N).map (fun m=>g (if m=t then v else F m)):=by
 apply aiM;intro i;rw[List.getElem?_set,afT,afT,afW,ahn];by_cases h:t=i
 ·subst h;rw[ag9 rfl];by_cases h2:t<N
  ·rw[ag9 h2,ahF h2];simp
  ·rw[ag7 h2,agC (by rw[ahn];omega)];rfl
 ·rw[ag7 h];by_cases h2:i<N
  ·rw[ahF h2];simp only[Option.map_some];rw[ag7 (fun e=>h e.symm)]
  ·rw[agC (by rw[ahn];omega)];rfl
def mO{T:Tw}(C:List (Q4 T))(i:Nat):Q4 T:=C[i]?.getD 0
def proQ{T:Tw}(k:Nat)(C:List (Q4 T))(i j:Nat):Q4 T:=AX k (mO C i)*AX k (mO C j)-hiQ k (mO C i)*hiQ k (mO C j)*toQ T (gx T k)
def iN{T:Tw}(k:Nat)(C:List (Q4 T)):List (Q4 T):=(List.range (2*C.length-1)).map (fun m=>I1 (proQ k C) C.length C.length m)
def uZ{T:Tw}(x:Q4 T):Nat→List (Q4 T)
 |0=>[-x,1]
 |1=>iN 0 [-x,1]
 |_=>iN 0 (iN 1 [-x,1])
theorem x3{T:Tw}(k:Nat)(a b:Q4 T):iN k [a,b]=[0+proQ k [a,b] 0 0,0+proQ k [a,b] 0 1+proQ k [a,b] 1 0,0+proQ k [a,b] 1 1]:=rfl
theorem Dc{T:Tw}(k:Nat)(a b c:Q4 T):iN k [a,b,c]=[0+proQ k [a,b,c] 0 0,0+proQ k [a,b,c] 0 1+proQ k [a,b,c] 1 0,0+proQ k [a,b,c] 0 2+proQ k [a,b,c] 1 1+proQ k [a,b,c] 2 0,0+proQ k [a,b,c] 1 2+proQ k [a,b,c] 2 1,0+proQ k [a,b,c] 2 2]:=rfl
theorem GP{T:Tw}{k:Nat}(hk:k≤1)(C:List (Q4 T))(i j:Nat):Lv k (proQ k C i j):=((Mc hk _).mul (Mc hk _)).sub (((Md hk _).mul (Md hk _)).mul (Me T hk))
theorem GQ{T:Tw}{k:Nat}{p:Nat→Nat→Q4 T}(hp:∀i j,Lv k (p i j))(i:Nat){b:Nat→Q4 T}(hb:∀m,Lv k (b m)):∀n m,Lv k (wF p i b n m)
 |0,m=>hb m
 |n+1,m=>by
  rw[wF];split
  ·exact(GQ hp i hb n m).add (hp _ _)
  ·exact GQ hp i hb n m
theorem KF{T:Tw}{k:Nat}{p:Nat→Nat→Q4 T}(hp:∀i j,Lv k (p i j))(n:Nat):∀i m,Lv k (I1 p n i m)
 |0,m=>Lv.zero k
 |i+1,m=>GQ hp i (fun m=>KF hp n i m) n m
theorem AY{T:Tw}{k:Nat}(hk:k≤1)(C:List (Q4 T)):∀a∈iN k C,Lv k a:=fun a ha=>by obtain⟨m,_,rfl⟩:=agI.1 ha;exact KF (GP hk C) _ _ _
theorem x4{T:Tw}(k:Nat)(C:List (Q4 T)):(iN k C).length=2*C.length-1:=by unfold iN;rw[afW,ahn]
def Nj{T:Tw}(K:tg T):List (Q4 T)→R→R
 |[],_=>0
 |a::r,X=>Nj K r X*X+a.v K
theorem x5{T:Tw}(K:tg T){k:Nat}(hk:k≤1){a:Q4 T}(h:Lv (k+1) a):a.v K=(AX k a).v K+(hiQ k a).v K*rv K k:=by
 conv=>lhs;rw[ab5 hk h]
 rw[Q4.E3,Q4.s6,Qf]
theorem Dd{T:Tw}(K:tg T):(0:Q4 T).v K=0:=by have:=Q4.E4 K 0;rw[R.eg] at this;exact this
theorem XY{T:Tw}(K:tg T):(1:Q4 T).v K=1:=by have:=Q4.E4 K 1;rw[R.uQ] at this;exact this
theorem z6{T:Tw}(K:tg T){k:Nat}(hk:k≤1){a b:Q4 T}(ha:Lv (k+1) a)(hb:Lv (k+1) b){X:R}(h:Nj K [a,b] X=0):Nj K (iN k [a,b]) X=0:=by
 rw[x3];simp only[Nj] at h ⊢;rw[x5 K hk ha,x5 K hk hb] at h;simp only[proQ,mO,Q4.E3,Q4.IY,Q4.s6,Dd,List.getElem?_cons_zero,List.getElem?_cons_succ,Option.getD_some];have hr:=Ma K hk;generalize (toQ T (gx T k)).v K=d at *;generalize rv K k=r at *;generalize (AX k a).v K=a0 at *;generalize (hiQ k a).v K=a1 at *;generalize (AX k b).v K=b0 at *;generalize (hiQ k b).v K=b1 at *;have e:((a0+b0*X)-(a1+b1*X)*r)*(((0*X+(b0+b1*r))*X+(a0+a1*r)))=0:=by rw[h];grind
 rw[←hr];grind
theorem DV{T:Tw}(K:tg T){k:Nat}(hk:k≤1){a b c:Q4 T}(ha:Lv (k+1) a)(hb:Lv (k+1) b)(hc:Lv (k+1) c){X:R}(h:Nj K [a,b,c] X=0):Nj K (iN k [a,b,c]) X=0:=by
 rw[Dc];simp only[Nj] at h ⊢;rw[x5 K hk ha,x5 K hk hb,x5 K hk hc] at h;simp only[proQ,mO,Q4.E3,Q4.IY,Q4.s6,Dd,List.getElem?_cons_zero,List.getElem?_cons_succ,Option.getD_some];have hr:=Ma K hk;generalize (toQ T (gx T k)).v K=d at *;generalize rv K k=r at *;generalize (AX k a).v K=a0 at *;generalize (hiQ k a).v K=a1 at *;generalize (AX k b).v K=b0 at *;generalize (hiQ k b).v K=b1 at *;generalize (AX k c).v K=c0 at *;generalize (hiQ k c).v K=c1 at *;have e:((a0+b0*X+c0*X*X)-(a1+b1*X+c1*X*X)*r)*(((0*X+(c0+c1*r))*X+(b0+b1*r))*X+(a0+a1*r))=0:=by rw[h];grind
 rw[←hr];grind
theorem VN{T:Tw}(k:Nat):AX k (1:Q4 T)=1:=by
 match k with
 |0=>rfl
 |k+1=>rfl
theorem VO{T:Tw}(k:Nat):hiQ k (1:Q4 T)=0:=by
 match k with
 |0=>rfl
 |k+1=>rfl
theorem GR{T:Tw}(k:Nat)(C:List (Q4 T))(i:Nat)(h:mO C i=1):0+proQ k C i i=1:=by unfold proQ;rw[h,VN,VO];grind
theorem So{T:Tw}(K:tg T){L:Nat}(hL:L≤2){x:Q4 T}(hx:Lv L x):Nj K (uZ x L) (x.v K)=0:=by
 have e0:Nj K [-x,1] (x.v K)=0:=by simp only[Nj,Q4.TC,XY];grind
 have:L=0∨L=1∨L=2:=by omega
 rcases this with rfl|rfl|rfl
 ·exact e0
 ·exact z6 K (by omega) hx.neg (Lv.one 1) e0
 ·have e1:=z6 K (k:=1) (by omega) hx.neg (Lv.one 2) e0;have hl:=AY (T:=T) (k:=1) (by omega) [-x,1];show Nj K (iN 0 (iN 1 [-x,1])) _=0;rw[x3] at e1 hl ⊢;exact DV K (by omega) (hl _ (by simp)) (hl _ (by simp)) (hl _ (by simp)) e1
theorem zi{T:Tw}{L:Nat}(hL:L≤2){x:Q4 T}(hx:Lv L x):(uZ x L).length=2^L+1∧(∀a∈uZ x L,Lv 0 a)∧mO (uZ x L) (2^L)=1:=by
 have:L=0∨L=1∨L=2:=by omega
 rcases this with rfl|rfl|rfl
 ·refine⟨rfl,fun a ha => ?_,rfl⟩;simp only[uZ,List.mem_cons,List.not_mem_nil,or_false] at ha;rcases ha with rfl|rfl
  ·exact hx.neg
  ·exact Lv.one 0
 ·refine⟨rfl,AY (by omega) _,?_⟩;show mO (iN 0 [-x,1]) 2=1;rw[x3];exact GR 0 [-x,1] 1 rfl
 ·refine⟨rfl,AY (by omega) _,?_⟩;show mO (iN 0 (iN 1 [-x,1])) 4=1;have e:=GR 1 [-x,1] 1 rfl;rw[x3,Dc];exact GR 0 _ 2 e
def nD{T:Tw}(x:Q4 T)(L:Nat):List Rat:=(uZ x L).map (fun a=>a.x)
theorem XZ{T:Tw}(K:tg T){a:Q4 T}(h:Lv 0 a):a.v K=R.ofQ a.x:=by obtain⟨h1,h2,h3⟩:=h;unfold Q4.v;rw[h1,h2,h3,R.eg];grind
theorem Mf{T:Tw}(K:tg T)(X:R):∀(l:List (Q4 T)),(∀a∈l,Lv 0 a)→evR (l.map (fun a=>a.x)) X=Nj K l X
 |[],_=>rfl
 |a::r,h=>by rw[agD,evR,Nj,Mf K X r (fun b hb=>h b (agm _ hb)),XZ K (h a (agM ..))]
theorem AZ{T:Tw}(K:tg T){L:Nat}(hL:L≤2){x:Q4 T}(hx:Lv L x):evR (nD x L) (x.v K)=0:=by unfold nD;rw[Mf K _ _ (zi hL hx).2.1];exact So K hL hx
theorem uj{T:Tw}{L:Nat}(hL:L≤2){x:Q4 T}(hx:Lv L x):(nD x L).length=2^L+1∧coef (nD x L) (2^L)=1:=by
 obtain⟨h1,h2,h3⟩:=zi hL hx;refine⟨by unfold nD;rw[afW];exact h1,?_⟩;unfold mO at h3;unfold nD coef;rw[afT];cases h:(uZ x L)[2^L]? with
 |none=>rw[ail] at h;omega
 |some v =>rw[h] at h3;have h3:v=1:=h3;rw[h3];rfl
end Go.Proofs.YtcpnocgollpbhaaGreatDoor.Sym
end
