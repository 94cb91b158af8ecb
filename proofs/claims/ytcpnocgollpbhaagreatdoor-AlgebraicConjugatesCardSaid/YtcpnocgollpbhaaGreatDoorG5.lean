/- Lemmas for the statements of this seat. -/
import Derived.Test.YtcpnocgollpbhaaGreatDoorG4
import Derived.Test.YtcpnocgollpbhaaGreatDoorP3
import Derived.Test.YtcpnocgollpbhaaGreatDoorChecked
import Derived.Shelf.Strings.BuilderX
import Derived.Shelf.Lays
import Derived.KernelRfl
import Derived.Test.YtcpnocgollpbhaaGreatDoorW25
import Derived.Test.YtcpnocgollpbhaaGreatDoorT0
import Derived.Shelf.Strconv.Itoa3
import Derived.Shelf.Strings.OnBuilder
import Derived.Test.YtcpnocgollpbhaaGreatDoorG1
import Derived.Test.YtcpnocgollpbhaaGreatDoorP4
namespace Go.Proofs.YtcpnocgollpbhaaGreatDoor.Sym
set_option linter.unusedVariables false
def Dn{T:Tw}(D N:Nat)(a:Q4 T):Prop:=∃i j k l:Int,a.x*(((D:Nat):Int):Rat)=(i:Rat)∧a.y*(((D:Nat):Int):Rat)=(j:Rat)∧a.z*(((D:Nat):Int):Rat)=(k:Rat)∧a.w*(((D:Nat):Int):Rat)=(l:Rat)∧i.natAbs≤N∧j.natAbs≤N∧k.natAbs≤N∧l.natAbs≤N
structure Nk (T:Tw) (A B:Nat):Prop where
 a0:A≠0
 b0:B≠0
 a1:A≤10^3
 b1:B≤10^6
 d:∃n:Int,T.d*(((A:Nat):Int):Rat)=(n:Rat)∧n.natAbs≤10^3
 e:∃n:Int,T.e*(((B:Nat):Int):Rat)=(n:Rat)∧n.natAbs≤10^6
 f:∃n:Int,T.f*(((B:Nat):Int):Rat)=(n:Rat)∧n.natAbs≤10^6
theorem Qg{n:Int}(h:n.natAbs≤10^6):wl n≤1:=mU (ahg h (by decide))
theorem Nk.tok{T:Tw}{A B:Nat}(h:Nk T A B):Tok T:=by obtain⟨a,a1,a2⟩:=h.d;obtain⟨b,b1,b2⟩:=h.e;obtain⟨c,c1,c2⟩:=h.f;have:=h.a0;have:=h.b0;have:=h.a1;have:=h.b1;exact⟨(A:Int),(B:Int),a,b,c,by omega,by omega,a1,b1,c1,Qg (by omega),Qg (by omega),Qg (by omega),Qg b2,Qg c2⟩
namespace Dn
variable {T:Tw}
theorem mono{D N M:Nat}{a:Q4 T}(h:Dn D N a)(hN:N≤M):Dn D M a:=by obtain⟨i,j,k,l,h1,h2,h3,h4,h5,h6,h7,h8⟩:=h;exact⟨i,j,k,l,h1,h2,h3,h4,by omega,by omega,by omega,by omega⟩
theorem zero(D:Nat):Dn D 0 (0:Q4 T):=by
 have hz:(0:Rat)*(((D:Nat):Int):Rat)=((0:Int):Rat):=by rw[agJ];rfl
 exact⟨0,0,0,0,hz,hz,hz,hz,afY _,afY _,afY _,afY _⟩
theorem neg{D N:Nat}{a:Q4 T}(h:Dn D N a):Dn D N (-a):=by obtain⟨i,j,k,l,h1,h2,h3,h4,h5,h6,h7,h8⟩:=h;refine⟨-i, -j, -k, -l,?_,?_,?_,?_,by omega,by omega,by omega,by omega⟩<;>simp only[Q4.C9,Q4.xY,Q4.vz,Q4.vA,Rat.intCast_neg]<;>grind
theorem add{D N M:Nat}{a b:Q4 T}(h:Dn D N a)(g:Dn D M b):Dn D (N+M) (a+b):=by obtain⟨i,j,k,l,h1,h2,h3,h4,h5,h6,h7,h8⟩:=h;obtain⟨i',j',k',l',g1,g2,g3,g4,g5,g6,g7,g8⟩:=g;refine⟨i+i',j+j',k+k',l+l',?_,?_,?_,?_,by omega,by omega,by omega,by omega⟩<;>simp only[Q4.jM,Q4.jw,Q4.iK,Q4.iM,Rat.intCast_add]<;>grind
theorem sub{D N M:Nat}{a b:Q4 T}(h:Dn D N a)(g:Dn D M b):Dn D (N+M) (a-b):=by
 have e:a-b=a + -b:=by grind
 rw[e];exact h.add g.neg
theorem scale{D N:Nat}{a:Q4 T}(h:Dn D N a)(c:Nat):Dn (D*c) (N*c) a:=by
 obtain⟨i,j,k,l,h1,h2,h3,h4,h5,h6,h7,h8⟩:=h;have w:∀{u:Int},u.natAbs≤N→(u*(c:Int)).natAbs≤N*c:=fun hu=>by rw[agW];exact agx hu (by omega)
 refine⟨i*c,j*c,k*c,l*c,?_,?_,?_,?_,w h5,w h6,w h7,w h8⟩<;>rw[agz,agt,agt]<;>grind
theorem ab4{u v p q:Int}{N M P Q:Nat}(h1:u.natAbs≤N)(h2:v.natAbs≤M)(h3:p.natAbs≤P)(h4:q.natAbs≤Q):(u*v*p*q).natAbs≤N*M*(P*Q):=by rw[agW,agW,agW,agr (u.natAbs*v.natAbs)];exact agx (agx h1 h2) (agx h3 h4)
theorem mul{D N D' M A B:Nat}(t:Nk T A B){a b:Q4 T}(h:Dn D N a)(g:Dn D' M b):Dn (D*D'*A*B) (6000000000*(N*M)) (a*b):=by
 obtain⟨n0,n1,n2,n3,h2,h3,h4,h5,h6,h7,h8,h9⟩:=h;obtain⟨m0,m1,m2,m3,g2,g3,g4,g5,g6,g7,g8,g9⟩:=g;obtain⟨d,t2,t7⟩:=t.d;obtain⟨e,t3,t8⟩:=t.e;obtain⟨f,t4,t9⟩:=t.f;have t5:((A:Nat):Int).natAbs≤10^3:=by have:=t.a1;omega
 have t6:((B:Nat):Int).natAbs≤10^6:=by have:=t.b1;omega
 generalize hP:N*M=P;have W:∀{u v p q:Int},u.natAbs≤N→v.natAbs≤M→p.natAbs≤10^3→q.natAbs≤10^6→(u*v*p*q).natAbs≤P*1000000000:=fun a b c d=>by have:=ab4 a b c d;rw[hP] at this;exact this
 have W':∀{u v p q:Int},u.natAbs≤N→v.natAbs≤M→p.natAbs≤10^6→q.natAbs≤10^3→(u*v*p*q).natAbs≤P*1000000000:=fun a b c d=>by have:=ab4 a b c d;rw[hP] at this;exact this
 refine⟨
  n0*m0*A*B+n1*m1*d*B+(n2*m2*A*e+n3*m3*d*e+(n2*m3*f*d+n3*m2*f*d)),
  n0*m1*A*B+n1*m0*A*B+(n2*m2*A*f+n3*m3*d*f+(n2*m3*A*e+n3*m2*A*e)),
  n0*m2*A*B+n1*m3*d*B+(n2*m0*A*B+n3*m1*d*B),
  n0*m3*A*B+n1*m2*A*B+(n2*m1*A*B+n3*m0*A*B),?_,?_,?_,?_,?_,?_,?_,?_⟩
 ·simp only[Q4.gW,Int.natCast_mul,Rat.intCast_add,Rat.intCast_mul,←h2,←h3,←h4,←h5,←g2,←g3,←g4,←g5,←t2,←t3,←t4];grind
 ·simp only[Q4.gP,Int.natCast_mul,Rat.intCast_add,Rat.intCast_mul,←h2,←h3,←h4,←h5,←g2,←g3,←g4,←g5,←t2,←t3,←t4];grind
 ·simp only[Q4.gu,Int.natCast_mul,Rat.intCast_add,Rat.intCast_mul,←h2,←h3,←h4,←h5,←g2,←g3,←g4,←g5,←t2];grind
 ·simp only[Q4.gw,Int.natCast_mul,Rat.intCast_add,Rat.intCast_mul,←h2,←h3,←h4,←h5,←g2,←g3,←g4,←g5];grind
 ·have a1:=W h6 g6 t5 t6;have a2:=W h7 g7 t7 t6;have a3:=W h8 g8 t5 t8;have a4:=W h9 g9 t7 t8;have a5:=W' h8 g9 t9 t7;have a6:=W' h9 g8 t9 t7;omega
 ·have a1:=W h6 g7 t5 t6;have a2:=W h7 g6 t5 t6;have a3:=W h8 g8 t5 t9;have a4:=W h9 g9 t7 t9;have a5:=W h8 g9 t5 t8;have a6:=W h9 g8 t5 t8;omega
 ·have a1:=W h6 g8 t5 t6;have a2:=W h7 g9 t7 t6;have a3:=W h8 g6 t5 t6;have a4:=W h9 g7 t7 t6;omega
 ·have a1:=W h6 g9 t5 t6;have a2:=W h7 g8 t5 t6;have a3:=W h8 g7 t5 t6;have a4:=W h9 g6 t5 t6;omega
theorem lo{D N:Nat}{a:Q4 T}(h:Dn D N a)(k:Nat):Dn D N (AX k a):=by
 obtain⟨i,j,m,l,h1,h2,h3,h4,h5,h6,h7,h8⟩:=h;have hz:(0:Rat)*(((D:Nat):Int):Rat)=((0:Int):Rat):=by rw[agJ];rfl
 match k with
 |0=>exact⟨i,0,0,0,h1,hz,hz,hz,h5,ago _,ago _,ago _⟩
 |k+1=>exact⟨i,j,0,0,h1,h2,hz,hz,h5,h6,ago _,ago _⟩
theorem hi{D N:Nat}{a:Q4 T}(h:Dn D N a)(k:Nat):Dn D N (hiQ k a):=by
 obtain⟨i,j,m,l,h1,h2,h3,h4,h5,h6,h7,h8⟩:=h;have hz:(0:Rat)*(((D:Nat):Int):Rat)=((0:Int):Rat):=by rw[agJ];rfl
 match k with
 |0=>exact⟨j,0,0,0,h2,hz,hz,hz,h6,ago _,ago _,ago _⟩
 |k+1=>exact⟨m,l,0,0,h3,h4,hz,hz,h7,h8,ago _,ago _⟩
theorem root{A B:Nat}(t:Nk T A B)(k:Nat):∃C,C≠0∧C≤10^6∧Dn C (10^6) (toQ T (gx T k)):=by
 obtain⟨d,t2,t7⟩:=t.d;obtain⟨e,t3,t8⟩:=t.e;obtain⟨f,t4,t9⟩:=t.f;have a1:=t.a1
 match k with
 |0 =>
  have hz:(0:Rat)*(((A:Nat):Int):Rat)=((0:Int):Rat):=by rw[agJ];rfl
  exact⟨A,t.a0,by omega,d,0,0,0,t2,hz,hz,hz,by omega,ago _,ago _,ago _⟩
 |k+1 =>
  have hz:(0:Rat)*(((B:Nat):Int):Rat)=((0:Int):Rat):=by rw[agJ];rfl
  exact⟨B,t.b0,t.b1,e,f,0,0,t3,t4,hz,hz,t8,t9,ago _,ago _⟩
end Dn
theorem KG{T:Tw}{D M N:Nat}{p:Nat→Nat→Q4 T}(hp:∀i j,Dn D N (p i j))(i:Nat){b:Nat→Q4 T}(hb:∀m,Dn D M (b m)):∀n m,Dn D (M+n*N) (wF p i b n m)
 |0,m=>by rw[aiV];exact hb m
 |n+1,m=>by
  have e:M+(n+1)*N=M+n*N+N:=by rw[ahS];omega
  rw[wF,e];split
  ·exact(KG hp i hb n m).add (hp _ _)
  ·exact(KG hp i hb n m).mono (by omega)
theorem Qh{T:Tw}{D N:Nat}{p:Nat→Nat→Q4 T}(hp:∀i j,Dn D N (p i j))(n:Nat):∀i m,Dn D (i*(n*N)) (I1 p n i m)
 |0,m=>by rw[aiV];exact Dn.zero D
 |i+1,m=>by rw[ahS];exact KG hp i (fun m=>Qh hp n i m) n m
theorem uR{T:Tw}{A B D N:Nat}(t:Nk T A B)(hD:D≠0)(k:Nat){C:List (Q4 T)}(hC:∀a∈C,Dn D N a):∃E,E≠0∧E≤D*D*10^24∧∀a∈iN k C,Dn E (C.length*(C.length*(N*N*(42*10^24)))) a:=by
 obtain⟨c,c0,c1,hc⟩:=Dn.root t k;have g:∀i,Dn D N (mO C i):=fun i=>by
  unfold mO;cases h:C[i]? with
  |none=>exact(Dn.zero D).mono (ago _)
  |some v=>exact hC v (ag4 h)
 have p:∀i j,Dn (D*D*A*B*c*A*B) (N*N*(42*10^24)) (proQ k C i j):=fun i j=>by
  have h1:=(((g i).lo k).mul t ((g j).lo k)).scale (c*A*B);have h2:=(((g i).hi k).mul t ((g j).hi k)).mul t hc;have e:D*D*A*B*(c*A*B)=D*D*A*B*c*A*B:=by simp only[Nat.mul_assoc]
  rw[e] at h1;have h3:=h1.sub h2;refine h3.mono ?_;generalize N*N=P;have w:c*A*B≤10^6*10^3*10^6:=agx (agx c1 t.a1) t.b1;have w2:6000000000*P*(c*A*B)≤6000000000*P*(10^6*10^3*10^6):=aga _ w;have w3:6000000000*P*(10^6*10^3*10^6)+6000000000*(6000000000*P*10^6)=P*(42*10^24):=by grind
  rw[←w3];exact Nat.add_le_add_right w2 _
 refine⟨D*D*A*B*c*A*B,?_,?_,fun a ha => ?_⟩
 ·exact ahB (ahB (ahB (ahB (ahB (ahB hD hD) t.a0) t.b0) c0) t.a0) t.b0
 ·have:=agx (agx (agx (agx (agx (afY (D*D)) t.a1) t.b1) c1) t.a1) t.b1;generalize D*D=P at this ⊢;have e:P*10^3*10^6*10^6*10^3*10^6=P*10^24:=by grind
  rw[e] at this;exact this
 ·obtain⟨m,_,rfl⟩:=agI.1 ha;exact Qh p _ _ _
theorem VP{T:Tw}{A B D:Nat}(t:Nk T A B)(hD:D≠0)(DW:D≤10^12){x:Q4 T}(hx:Dn D (10^12) x){L:Nat}(hL:L≤2):∃E,E≠0∧E≤10^128∧∀a∈uZ x L,Dn E (10^128) a:=by
 have hz:(0:Rat)*(((D:Nat):Int):Rat)=((0:Int):Rat):=by rw[agJ];rfl
 have c0:∀a∈([-x,1]:List (Q4 T)),Dn D (10^12) a:=fun a ha=>by
  simp only[List.mem_cons,List.not_mem_nil,or_false] at ha;rcases ha with rfl|rfl
  ·exact hx.neg
  ·exact⟨(D:Int),0,0,0,aht _,hz,hz,hz,by omega,ago _,ago _,ago _⟩
 have:L=0∨L=1∨L=2:=by omega
 rcases this with rfl|rfl|rfl
 ·exact⟨D,hD,ag3 DW (by decide),fun a ha=>(c0 a ha).mono (by decide)⟩
 ·obtain⟨E,e0,e1,e2⟩:=uR t hD 0 c0;rw[show ([-x,1]:List (Q4 T)).length=2 from rfl] at e2;refine⟨E,e0,ag3 e1 (ag3 (afU _ (agx DW DW)) (by decide)),fun a ha=>(e2 a ha).mono (by decide)⟩
 ·obtain⟨E,e0,e1,e2⟩:=uR t hD 1 c0;rw[show ([-x,1]:List (Q4 T)).length=2 from rfl] at e2;obtain⟨F,f0,f1,f2⟩:=uR t e0 0 e2;have e3:E≤10^48:=ag3 e1 (ag3 (afU _ (agx DW DW)) (by decide));refine⟨F,f0,ag3 f1 (ag3 (afU _ (agx e3 e3)) (by decide)),fun a ha=>(f2 a ha).mono ?_⟩;rw[x4,show([-x,1]:List (Q4 T)).length=2 from rfl];decide
end Go.Proofs.YtcpnocgollpbhaaGreatDoor.Sym
namespace Go.Proofs.YtcpnocgollpbhaaGreatDoor.Sym
open Go Path cF
set_option linter.unusedVariables false
def Rt(t:aA)(T:Tw)(n:Nat):Prop:=n≤2∧∀j,j<n→t.roots[j]? = some ((gx T j).map aI)
theorem dB(a:List Rat)(k:Nat):(a.map aI).take k=(a.take k).map aI:=by rw[ahP]
theorem dC(a:List Rat)(k:Nat):(a.map aI).drop k=(a.drop k).map aI:=by rw[ajg]
theorem TF(T:Tw){q:List Rat}{k:Nat}(hk:k≤2)(h:q.length=2^k):Nh (q.map aI) k=(gX (toQ T q)).map aI:=by
 have:k=0∨k=1∨k=2:=by omega
 rcases this with rfl|rfl|rfl
 ·obtain⟨x,rfl⟩:=kQ h;simp only[Nh,gX,toQ,coef];by_cases hx:x=0<;>simp[GO,hx]
 ·obtain⟨x,y,rfl⟩:=Qc h;simp only[Nh,gX,toQ,coef];by_cases hx:x=0<;>by_cases hy:y=0<;>simp[GO,hx,hy]
 ·obtain⟨x,y,z,w,rfl⟩:=Sk h;simp only[Nh,gX,toQ,coef];by_cases hx:x=0<;>by_cases hy:y=0<;>by_cases hz:z=0<;>by_cases hw:w=0<;>simp[GO,hx,hy,hz,hw]
theorem De{T:Tw} : gX (0:Q4 T)=[]:=by simp[gX,Q4.pH,Q4.qV,Q4.sN,Q4.sO]
theorem Mg{T:Tw} : gX (toQ T [])=[]:=De
theorem VQ{T:Tw}{p q:List Rat}(hp:p.length≤1)(hq:q.length≤1):Lk 0 (tc.Qb p q)∧toQ T (tc.Qb p q)=toQ T p*toQ T q:=by
 have z:∀{l:List Rat},l.length≤1→Lk 0 l:=fun {l} h=>by
  match l,h with
  |[],_=>exact .inl rfl
  |[x],_=>exact .inr ⟨0,afY _,rfl⟩
 have z0:toQ T []=0:=rfl;unfold tc.Qb;by_cases h1:pN p=true
 ·rw[h1,Bool.true_or,ag9 rfl];have:=(L9 T (by omega) (z hp)).1 h1;refine⟨.inl rfl,?_⟩;rw[this,z0];grind
 ·by_cases h2:pN q=true
  ·rw[h2,Bool.or_true,ag9 rfl];have:=(L9 T (by omega) (z hq)).1 h2;refine⟨.inl rfl,?_⟩;rw[this,z0];grind
  ·rw[ah5] at h1 h2;rw[h1,h2];rcases(z hp).zero with rfl|⟨x,rfl⟩
   ·cases h1
   ·rcases(z hq).zero with rfl|⟨y,rfl⟩
    ·cases h2
    ·exact⟨.inr ⟨0,afY _,rfl⟩,Q4.L8 x y⟩
namespace tc
variable {T:Tw}
theorem nE{q:List Rat}{h k:Nat}(hk:k≤2)(hl:Lk k q)(hq:Hq h (toQ T q))(h1:1≤h)(h2:h≤1073741824):Cp 59 [pq q] (pq (gX (toQ T q))):=by
 rcases hl with rfl|⟨j,j1,j2⟩
 ·rw[Mg];exact zh
 ·have:=Qa (a:=q.map aI) (k:=j) (by omega) (by rw[afW];exact j2) (kT (bV (hq.fl h1 (Lk.len hk (.inr ⟨j,j1,j2⟩))) h2));rwa[TF T (by omega) j2] at this
theorem TG(m s:List Rat)(n:Nat)(hn:n≤1000):Cp 118 [pq m,pq s,vI (n:Int)] (pq (wideL m n++wideL s n)):=by have:=Cd.e0 (m.map aI) (s.map aI) (n:Int) ((wideL m n).map aI) n ((wideL s n).map aI) (IX m n hn) (wide s n hn) (by rw[afW,cM]) (by rw[agB,afW,afW,cM,cM];omega);unfold pq;rwa[agU]
theorem uk(ht:Tok T){t:aA}{n:Nat}(hr:Rt t T n):∀k,k≤n→∀(a b:List Rat) (h h':Nat),Lk k a→Lk k b→Hq h (toQ T a)→Hq h' (toQ T b)→1≤h→1≤h'→h+h'+32*k+32≤34359738368 →
  ∃r,Cp 60 [t.pv,pq a,pq b] (pq r)∧Lk k r∧toQ T r=toQ T a*toQ T b:=by
 intro k
 induction k with
 |zero =>intro hk a b h h' la lb ha hb h1 sQ hs;have l1:a.length≤1:=la.le;have l2:b.length≤1:=lb.le;have fa:Fl 68719476736 a:=bV (ha.fl h1 (by omega)) (by omega);have fb:Fl 68719476736 b:=bV (hb.fl sQ (by omega)) (by omega);exact⟨_,VL t a b l1 l2 fa fb,VQ l1 l2⟩
 |succ k ih =>
  intro hk a b h h' la lb ha hb h1 sQ hs;have hn:=hr.1;have ih:=ih (by omega);have z0:toQ T []=0:=rfl;by_cases xF:a.length≠2^(k+1)∧b.length≠2^(k+1)
  ·obtain⟨r,r1,r2,r3⟩:=ih a b h h' (la.low xF.1) (lb.low xF.2) ha hb h1 sQ (by omega);exact⟨r,r1,r2.mono (by omega),r3⟩
  have p2:2^(k+1)=2^k+2^k:=by rw[agb];omega
  have p0:0<2^k:=agL _;have p4:2^(k+1)≤2^2:=ag6 (by omega) (by omega);have la4:=la.len (by omega);have lb4:=lb.len (by omega);have za:=zero a (by omega) (bV (ha.fl h1 la4) (by omega));have zb:=zero b (by omega) (bV (hb.fl sQ lb4) (by omega));have zqa:=L9 T (by omega) la;have zqb:=L9 T (by omega) lb;have core:∀(A B:List Rat) (g g':Nat),A.length=2^(k+1)→Lk (k+1) B→Hq g (toQ T A)→Hq g' (toQ T B)→1≤g→1≤g'→g+g'+32*k+64≤34359738368 →
    (B.length≤2^k→∃u v,Cp 60 [t.pv,pq (A.take (2^k)),pq B] (pq u)∧Cp 60 [t.pv,pq (A.drop (2^k)),pq B] (pq v)∧Cp 118 [pq u,pq v,vI ((2^k:Nat):Int)] (pq (wideL u (2^k)++wideL v (2^k)))∧(wideL u (2^k)++wideL v (2^k)).length=2^(k+1)∧toQ T (wideL u (2^k)++wideL v (2^k))=toQ T A*toQ T B) ∧
    (B.length=2^(k+1)→∃i j l m n p s,Cp 60 [t.pv,pq (A.take (2^k)),pq (B.take (2^k))] (pq i)∧Cp 60 [t.pv,pq (A.drop (2^k)),pq (B.drop (2^k))] (pq j)∧Cp 60 [t.pv,pq j,pq (gx T k)] (pq l)∧Cp 61 [pq i,pq l] (pq m)∧Cp 60 [t.pv,pq (A.take (2^k)),pq (B.drop (2^k))] (pq n)∧Cp 60 [t.pv,pq (A.drop (2^k)),pq (B.take (2^k))] (pq p)∧Cp 61 [pq n,pq p] (pq s)∧Cp 118 [pq m,pq s,vI ((2^k:Nat):Int)] (pq (wideL m (2^k)++wideL s (2^k)))∧(wideL m (2^k)++wideL s (2^k)).length=2^(k+1)∧toQ T (wideL m (2^k)++wideL s (2^k))=toQ T A*toQ T B):=fun A B g g' hA lB qA qB g1 Oo gs=>by
   obtain⟨hx,hy,_,_⟩:=oM hA;have eA:=Da T (show k≤1 by omega) hA;have xq:=qA.take (j:=2^k);have yq:=qA.drop (j:=2^k) (by omega);refine⟨fun hB => ?_,fun hB => ?_⟩
   ·have lB':Lk k B:=lB.low (by omega);obtain⟨u,u1,u2,u3⟩:=ih _ B g g' hx lB' xq qB g1 Oo (by omega);obtain⟨v,v1,v2,v3⟩:=ih _ B g g' hy lB' yq qB g1 Oo (by omega);obtain⟨j1,j2⟩:=KC T (show k≤1 by omega) u2 v2;refine⟨u,v,u1,v1,TG u v (2^k) (by omega),j2,?_⟩;rw[j1,u3,v3,eA];grind
   ·obtain⟨hu,hv,_,_⟩:=oM hB;have eB:=Da T (show k≤1 by omega) hB;have uq:=qB.take (j:=2^k);have vq:=qB.drop (j:=2^k) (by omega);obtain⟨i,i1,i2,i3⟩:=ih _ _ g g' hx hu xq uq g1 Oo (by omega);obtain⟨j,j1,j2,j3⟩:=ih _ _ g g' hy hv yq vq g1 Oo (by omega);have jq:Hq (g+g'+8) (toQ T j):=by rw[j3];exact Hq.mul ht yq vq
    have iq:Hq (g+g'+8) (toQ T i):=by rw[i3];exact Hq.mul ht xq uq
    obtain⟨l,l1,l2,l3⟩:=ih _ (gx T k) (g+g'+8) 1 j2 (.nC (pI T (by omega))) jq (ht.root k) (by omega) (by omega) (by omega);have lq:Hq (g+g'+8+1+8) (toQ T l):=by rw[l3];exact Hq.mul (h:=g+g'+8) (k:=1) ht jq (ht.root k)
    obtain⟨n,n1,n2,n3⟩:=ih _ _ g g' hx hv xq vq g1 Oo (by omega);obtain⟨p,w1,w2,w3⟩:=ih _ _ g g' hy hu yq uq g1 Oo (by omega);have nq:Hq (g+g'+8) (toQ T n):=by rw[n3];exact Hq.mul ht xq vq
    have wq:Hq (g+g'+8) (toQ T p):=by rw[w3];exact Hq.mul ht yq uq
    have m1:=plus i l (by have:=i2.len (by omega);omega) (by have:=l2.len (by omega);omega) (bV (iq.fl (by omega) (i2.len (by omega))) (by omega)) (bV (lq.fl (by omega) (l2.len (by omega))) (by omega));have s1:=plus n p (by have:=n2.len (by omega);omega) (by have:=w2.len (by omega);omega) (bV (nq.fl (by omega) (n2.len (by omega))) (by omega)) (bV (wq.fl (by omega) (w2.len (by omega))) (by omega));obtain⟨q1,q2⟩:=KC T (show k≤1 by omega) (oN i2 l2) (oN n2 w2);refine⟨i,j,l,_,n,p,_,i1,j1,l1,m1,n1,w1,s1,TG _ _ (2^k) (by omega),q2,?_⟩;rw[q1,mN,mN,i3,l3,j3,n3,w3,eA,eB,←KD T (show k≤1 by omega)];grind
  have qH:=hr.2 k (by omega);by_cases bH:a.length<b.length
  ·have hB:b.length=2^(k+1):=afV fun e=>xF ⟨fun e2=>by have:=lb.le;omega,e⟩
   have hm:(a.map aI).length<(b.map aI).length:=by rw[bM,bM];exact bH
   by_cases hzb:pN b=true
   ·exact⟨[],dY.e0 t _ _ _ hm zb hzb,.inl rfl,by rw[z0,zqb.1 hzb];grind⟩
   rw[ah5] at hzb;by_cases hza:pN a=true
   ·exact⟨[],dY.e1 t _ _ _ _ hm zb hzb za hza,.inl rfl,by rw[z0,zqa.1 hza];grind⟩
   rw[ah5] at hza;have hh:(b.map aI).length/2=2^k:=by rw[bM,hB,p2];omega
   have td:(b.map aI).length≠1:=by rw[bM];omega
   have Ez:(b.map aI).length=2^(k+1):=by rw[bM];exact hB
   have BP:(a.map aI).length=a.length:=bM _;obtain⟨c1,_⟩:=core b a h' h hB la hb ha sQ h1 (by omega);have X0:a.length≤2^k:=by
    rcases la with rfl|⟨i,i1,i2⟩
    ·exact ago _
    ·have:i≤k:=by
      refine Nat.not_lt.1 fun hh => ?_
      have:i=k+1:=by omega
      rw[this] at i2;omega
     rw[i2];exact ag6 (by omega) this
   obtain⟨u,v,u1,v1,j1,j2,j3⟩:=c1 X0;refine⟨_,?_,.nC j2,by rw[j3];grind⟩;exact dY.e3 t _ _ _ _ (u.map aI) (v.map aI) _ hm zb hzb za hza td (by omega) (by omega) (by omega) (by rw[hh,BP];exact X0) (by rw[hh,dB];exact u1) (by rw[hh,dC];exact v1) (by rw[hh];exact j1)
  ·have hA:a.length=2^(k+1):=afV fun e=>xF ⟨e,fun e2=>by
    have:=la.le;omega⟩
   have hm:(b.map aI).length≤(a.map aI).length:=by rw[bM,bM];omega
   by_cases hza:pN a=true
   ·exact⟨[],dY.e5 t _ _ _ hm za hza,.inl rfl,by rw[z0,zqa.1 hza];grind⟩
   rw[ah5] at hza;by_cases hzb:pN b=true
   ·exact⟨[],dY.e6 t _ _ _ _ hm za hza zb hzb,.inl rfl,by rw[z0,zqb.1 hzb];grind⟩
   rw[ah5] at hzb;have hh:(a.map aI).length/2=2^k:=by rw[bM,hA,p2];omega
   have YW:(a.map aI).length≠1:=by rw[bM];omega
   have BP:(a.map aI).length=2^(k+1):=by rw[bM];exact hA
   have Ez:(b.map aI).length=b.length:=bM _;obtain⟨c1,c2⟩:=core a b h h' hA lb ha hb h1 sQ (by omega);by_cases Ph:b.length≤2^k
   ·obtain⟨u,v,u1,v1,j1,j2,j3⟩:=c1 Ph;refine⟨_,?_,.nC j2,j3⟩;exact dY.e8 t _ _ _ _ (u.map aI) (v.map aI) _ hm za hza zb hzb YW (by omega) (by omega) (by omega) (by rw[hh,Ez];exact Ph) (by rw[hh,dB];exact u1) (by rw[hh,dC];exact v1) (by rw[hh];exact j1)
   ·have hB:b.length=2^(k+1):=by
     rcases lb with rfl|⟨i,i1,i2⟩
     ·exact absurd (ago _) Ph
     ·have:i=k+1:=by
       refine Nat.le_antisymm i1 (aiu fun hh=>Ph ?_);rw[i2];exact ag6 (by omega) hh
      rw[i2,this]
    obtain⟨i,j,l,m,n',p,s,i1,j1,l1,m1,n1,w1,s1,q0,q1,q2⟩:=c2 hB;have lv:=level (a:=a.map aI) (k:=k+1) (by omega) BP;refine⟨_,?_,.nC q1,q2⟩;exact dY.e9 t _ _ _ _ _ k _ (i.map aI) (j.map aI) (l.map aI) (m.map aI) (n'.map aI) (p.map aI) (s.map aI) _ hm za hza zb hzb YW (by omega) (by omega) (by omega) (by rw[hh,Ez];omega) (by omega) (by omega) lv (by unfold az;omega) (by omega) qH (by rw[hh,dB,dB];exact i1) (by rw[hh,dC,dC];exact j1) l1 m1 (by rw[hh,dB,dC];exact n1) (by rw[hh,dC,dB];exact w1) s1 (by rw[hh];exact q0)
theorem Qi(ht:Tok T){t:aA}{n:Nat}(hr:Rt t T n){k:Nat}(hk:k+1≤n){a:List Rat}{h:Nat}(hA:a.length=2^(k+1))(ha:Hq h (toQ T a))(h1:1≤h)(hs:4*h+200≤34359738368) :
  ∃r,Cp 120 [t.pv,pq a] (pq r)∧Lk k r∧toQ T r=toQ T (a.take (2^k))*toQ T (a.take (2^k))-toQ T (a.drop (2^k))*toQ T (a.drop (2^k))*toQ T (gx T k)∧Hq (4*h+30) (toQ T r):=by
 have hn:=hr.1;have p2:2^(k+1)=2^k+2^k:=by rw[agb];omega
 have p4:2^(k+1)≤2^2:=ag6 (by omega) (by omega);obtain⟨hx,hy,_,_⟩:=oM hA;have xq:=ha.take (j:=2^k);have yq:=ha.drop (j:=2^k) (by omega);obtain⟨b,b1,b2,b3⟩:=uk ht hr k (by omega) _ _ h h hx hx xq xq h1 h1 (by omega);obtain⟨c,c1,c2,c3⟩:=uk ht hr k (by omega) _ _ h h hy hy yq yq h1 h1 (by omega);have bq:Hq (h+h+8) (toQ T b):=by rw[b3];exact Hq.mul ht xq xq
 have cq:Hq (h+h+8) (toQ T c):=by rw[c3];exact Hq.mul ht yq yq
 obtain⟨g,g1,g2,g3⟩:=uk ht hr k (by omega) c (gx T k) (h+h+8) 1 c2 (.nC (pI T (by omega))) cq (ht.root k) (by omega) (by omega) (by omega);have gq:Hq (h+h+8+1+8) (toQ T g):=by rw[g3];exact Hq.mul (h:=h+h+8) (k:=1) ht cq (ht.root k)
 have i1:=minus g (by have:=g2.len (by omega);omega) (bV (gq.fl (by omega) (g2.len (by omega))) (by omega));have iq:Hq (h+h+8+1+8) (toQ T (g.map (- ·))):=by rw[vC];exact gq.neg
 have il:=Db g2;have j1:=plus b (g.map (- ·)) (by have:=b2.len (by omega);omega) (by have:=il.len (by omega);omega) (bV (bq.fl (by omega) (b2.len (by omega))) (by omega)) (bV (iq.fl (by omega) (il.len (by omega))) (by omega));have hh:(a.map aI).length/2=2^k:=by rw[bM,hA,p2];omega
 have BP:(a.map aI).length=2^(k+1):=by rw[bM];exact hA
 have lv:=level (a:=a.map aI) (k:=k+1) (by omega) BP;refine⟨_,Ce.e0 t _ (b.map aI) (c.map aI) _ k _ (g.map aI) _ _ (by omega) (by omega) (by omega) (by rw[hh,dB];exact b1) (by rw[hh,dC];exact c1) lv (by unfold az;omega) (by omega) (hr.2 k (by omega)) g1 i1 j1,oN b2 il,?_,?_⟩
 ·rw[mN,vC,b3,g3,c3];grind
 ·rw[mN];exact(bq.add iq).mono (by omega)
end tc
theorem Mh{T:Tw}(K:tg T)(x:Rat):iy x 0=R.fQ (lv K [x]):=by rw[XX];rfl
theorem TH{T:Tw}(K:tg T)(q:List Rat):lv K (gX (toQ T q))=lv K q:=by unfold lv;rw[dA]
namespace tc
variable {T:Tw}
theorem Df(ht:Tok T)(K:tg T){t:aA}{n:Nat}(hr:Rt t T n):∀k,k≤n→∀(a:List Rat) (h:Nat),Lk k a→Hq h (toQ T a)→1≤h→4^k*(h+64)≤1073741824→Cp 63 [t.pv,pq a] (vI (R.fQ (lv K a))):=by
 intro k
 induction k using Nat.strongRecOn with
 |ind k ih =>
  intro hk a h la ha h1 hs;have hn:=hr.1;have p1:0<4^k:=aj6 (by omega);have ab6:h+64≤4^k*(h+64):=aj5 _ p1;have s1:=nE (T:=T) (show k≤2 by omega) la ha h1 (by omega);have bl:=mV (E5 (T:=T) la);have bq:Hq h (toQ T (gX (toQ T a))):=by rw[dA];exact ha
  have bv:=TH K a;rw[←bv];generalize gX (toQ T a)=b at s1 bl bq;have b4:=bl.len (by omega);rcases bl with rfl|⟨j,j1,j2⟩
  ·have e:R.fQ (lv K [])=0:=R.jv.2 (Dd K);rw[e];exact jX.e0 t _ [] s1 rfl
  ·match j,j1,j2 with
   |0,_,j2 =>obtain⟨x,rfl⟩:=kQ j2;have fx:=QF.Sign x (by have:=bq.fl h1 b4 x (by simp);omega);rw[Mh K] at fx;exact jX.e1 t _ [aI x] (aI x) _ s1 (by simp) (by simp) (by simp) fx
   |j+1,j1,j2 =>
    have p2:2^(j+1)=2^j+2^j:=by rw[agb];omega
    have p0:0<2^j:=agL _;obtain⟨hx,hy,_,_⟩:=oM j2;have xq:=bq.take (j:=2^j);have yq:=bq.drop (j:=2^j) b4;have KH:4^(j+1)≤4^k:=ag6 (by omega) j1;have kh:4^(j+1)=4^j*4:=agb ..;have hle:=afU (h+64) KH;have ab7:4^j*(h+64)*4=4^(j+1)*(h+64):=by rw[kh];grind
    have td:1+64≤h+64:=by omega
    have ab8:=aga (4^j) td;have cx:=ih j (by omega) (by omega) _ h hx xq h1 (by omega);have cy:=ih j (by omega) (by omega) _ h hy yq h1 (by omega);have cr:=ih j (by omega) (by omega) (gx T j) 1 (.nC (pI T (by omega))) (ht.root j) (by omega) (by omega);have BP:(b.map aI).length=2^(j+1):=by rw[bM];exact j2
    have hh:(b.map aI).length/2=2^j:=by rw[BP,p2];omega
    have X1:=level (a:=b.map aI) (k:=j+1) (by omega) BP;have qH:=hr.2 j (by omega);have n0:(b.map aI).length≠0:=by omega
    have n1:(b.map aI).length≠1:=by omega
    have q4:2^(j+1)≤2^2:=ag6 (by omega) (by omega);obtain⟨r,r1,r2,r3,r4⟩:=Qi ht hr (show j+1≤n by omega) j2 bq h1 (by omega);have cn:=ih j (by omega) (by omega) r (4*h+30) r2 r4 (by omega) (by
     have:4^j*(4*h+30+64)≤4^j*((h+64)*4):=aga _ (by omega);have e:4^j*((h+64)*4)=4^j*(h+64)*4:=by grind
     omega)
    have hnv:lv K r=lv K (b.take (2^j))*lv K (b.take (2^j))-lv K (b.drop (2^j))*lv K (b.drop (2^j))*lv K (gx T j):=by unfold lv;rw[r3,Q4.IY,Q4.s6,Q4.s6,Q4.s6]
    obtain⟨g1,g2,g3,g4⟩:=Mb K (show j≤1 by omega) j2 rfl rfl rfl hnv.symm;have rx:=xZ (lv K (b.take (2^j)));have rr:=xZ (lv K r);by_cases c0:R.fQ (lv K (gx T j))=0
    ·rw[g1 c0];exact jX.e2 t _ (b.map aI) _ _ _ j _ _ s1 n0 n1 (by omega) (by omega) (by rw[hh,dB];exact cx) (by omega) (by rw[hh,dC];exact cy) X1 (by unfold az;omega) (by omega) qH cr c0
    ·by_cases c1:R.fQ (lv K (b.take (2^j)))=R.fQ (lv K (b.drop (2^j)))
     ·rw[g2 (.inl c1)];exact jX.e3 t _ (b.map aI) _ _ _ j _ _ s1 n0 n1 (by omega) (by omega) (by rw[hh,dB];exact cx) (by omega) (by rw[hh,dC];exact cy) X1 (by unfold az;omega) (by omega) qH cr c0 c1
     ·by_cases c2:R.fQ (lv K (b.drop (2^j)))=0
      ·rw[g2 (.inr c2)];exact jX.e4 t _ (b.map aI) _ _ _ j _ _ s1 n0 n1 (by omega) (by omega) (by rw[hh,dB];exact cx) (by omega) (by rw[hh,dC];exact cy) X1 (by unfold az;omega) (by omega) qH cr c0 c1 c2
      ·by_cases c3:R.fQ (lv K (b.take (2^j)))=0
       ·rw[g3 c0 c3];exact jX.e5 t _ (b.map aI) _ _ _ j _ _ s1 n0 n1 (by omega) (by omega) (by rw[hh,dB];exact cx) (by omega) (by rw[hh,dC];exact cy) X1 (by unfold az;omega) (by omega) qH cr c0 c1 c2 c3
       ·rw[g4 c0 c3 c2 c1];exact jX.e6 t _ (b.map aI) _ _ _ j _ _ (r.map aI) _ s1 n0 n1 (by omega) (by omega) (by rw[hh,dB];exact cx) (by omega) (by rw[hh,dC];exact cy) X1 (by unfold az;omega) (by omega) qH cr c0 c1 c2 c3 r1 cn (by unfold az;rcases rx with e|e|e<;>rcases rr with e'|e'|e'<;>rw[e,e']<;>decide)
end tc
end Go.Proofs.YtcpnocgollpbhaaGreatDoor.Sym
namespace Go.Proofs.YtcpnocgollpbhaaGreatDoor.Sym
open Go Path cF
set_option linter.unusedVariables false
theorem Nl{q:List Rat}{n:Nat}(h:q.length=n):wideL q n=q:=by unfold wideL;rw[agd (by omega),show n-q.length=0 from by omega,aiT,aif]
theorem KI(T:Tw){q:List Rat}{n:Nat}(h:q.length≤n):toQ T (wideL q n)=toQ T q:=by
 have key:∀i,coef (wideL q n) i=coef q i:=fun i=>by
  rw[wE];split
  ·rfl
  ·rw[eE (by omega)]
 unfold toQ;simp only[key]
namespace NL
theorem wG{k:Nat}(hk:k≤5):Cp 49 [vI ((2^k:Nat):Int)] (.aF [vI (k:Int),vB true]):=by
 have p5:∀t,t≤5→1*2^t<9223372036854775808:=fun t ht=>by have:2^t≤2^5:=ag6 (by omega) ht;omega
 have loop:∀d t:Nat,t+d=k→bC.ai ((2^k:Nat):Int) t (.aF [vI (k:Int),vB true]):=by
  intro d
  induction d with
  |zero =>
   intro t ht;have:t=k:=by omega
   subst this;exact bC.l10 _ t (by omega) (by omega) (p5 t hk) (by rw[ahr])
  |succ d ih =>intro t ht;have:2^t<2^k:=ahR (by omega) (by omega);exact bC.c9 _ t (by omega) (by omega) (p5 t (by omega)) (by omega) (by omega) (ih (t+1) (by omega))
 exact bC.e0 _ (loop k 0 (by omega))
theorem Dg{n:Int}(hn:n≠1∧n≠2∧n≠4∧n≠8∧n≠16∧n≠32):Cp 49 [vI n] (.aF [vI 0,vB false]):=by obtain⟨h0,h1,h2,h3,h4,h5⟩:=hn;refine bC.e0 _ ?_;refine bC.c9 _ 0 (by omega) (by omega) (by decide) (by exact h0) (by omega) ?_;refine bC.c9 _ 1 (by omega) (by omega) (by decide) (by exact h1) (by omega) ?_;refine bC.c9 _ 2 (by omega) (by omega) (by decide) (by exact h2) (by omega) ?_;refine bC.c9 _ 3 (by omega) (by omega) (by decide) (by exact h3) (by omega) ?_;refine bC.c9 _ 4 (by omega) (by omega) (by decide) (by exact h4) (by omega) ?_;refine bC.c9 _ 5 (by omega) (by omega) (by decide) (by exact h5) (by omega) ?_;exact bC.kA _ 6 (by omega)
theorem plain(a:List ag)(hl:a.length≤1000):Cp 51 [ae a] (vB (a.all xX)):=by
 have loop:∀d t:Nat,a.length-t=d→cY.ai a t (vB ((a.drop t).all xX)):=by
  intro d
  induction d with
  |zero =>intro t hd;rw[agv (by omega)];exact cY.Dp a t (by omega)
  |succ d ih =>
   intro t hd;obtain⟨v,hv⟩:∃v,a[t]? = some v:=⟨_,afO (by omega)⟩;rw[ui hv];unfold xX;by_cases h1:v.neg=true
   ·rw[h1];exact cY.l10 a t v (by omega) hv h1
   ·rw[ah5] at h1;rw[h1];by_cases h2:v.num=[]
    ·rw[h2];by_cases h3:v.den=[]
     ·rw[h3];exact cY.uA a t v (by omega) hv h1 (by rw[h2];simp) (by rw[h3];simp) (by omega) (ih (t+1) (by omega))
     ·rw[show v.den.isEmpty=false from by cases hh:v.den<;>simp_all];exact cY.kA a t v (by omega) hv h1 (by rw[h2];simp) (fun e=>h3 (afP e))
    ·rw[show v.num.isEmpty=false from by cases hh:v.num<;>simp_all];exact cY.c9 a t v (by omega) hv h1 (fun e=>h2 (afP e))
 have:=loop _ 0 rfl;rw[ah3] at this;exact cY.e0 a this
theorem zh:Cp 16 [ae []] (ae []) :=
 cX.e0 [] _ false (Dg (n:=(([]:List ag).length:Int)) (by decide)) rfl (by decide)
theorem Qa{a:List ag}{k:Nat}(hk:k≤5)(h:a.length=2^k):Cp 16 [ae a] (ae (Nh a k)):=by
 have b5:2^k≤2^5:=ag6 (by omega) hk;have loop:∀t:Nat,t≤k→cX.ai a (2^t) (ae (Nh a t)):=by
  intro t
  induction t with
  |zero =>
   intro _;have p0:0<2^k:=agL _;have e:=plain (a.take 1) (by rw[agh];omega);unfold Nh;by_cases hb:(a.take 1).all xX=true
   ·rw[ag9 hb];exact cX.Dp a 1 _ (by omega) rfl (by omega) e hb
   ·rw[ag7 hb];exact cX.Xc a 1 _ (by omega) rfl (by omega) e (by rwa[ah5] at hb) (by omega) (by rw[ahZ,agh];omega)
  |succ t ih =>
   intro ht;have le:2^(t+1)≤2^k:=ag6 (by omega) ht;have p0:0<2^t:=agL _;have hh:2^(t+1)/2=2^t:=by rw[agb];omega
   have h2:1<2^(t+1):=by rw[agb];omega
   have e:=plain ((a.take (2^(t+1))).drop (2^t)) (by rw[ahT,agh];omega);unfold Nh;by_cases hb:((a.take (2^(t+1))).drop (2^t)).all xX=true
   ·rw[ag9 hb];exact cX.l10 a _ _ h2 (by omega) (by omega) (by omega) (by rw[hh];exact e) hb (by rw[hh];exact ih (by omega))
   ·rw[ag7 hb];exact cX.uA a _ _ h2 (by omega) (by omega) (by omega) (by rw[hh];exact e) (by rwa[ah5] at hb) (by omega) (by rw[ahZ,agh];omega)
 have:=loop k (afY _);rw[←h] at this;have pw:=wG (k:=k) hk;rw[←h] at pw;exact cX.e1 a _ true pw rfl this
theorem Dh(q:List Rat){n:Nat}(h:q.length≤n):wideL q n=q++List.replicate (n-q.length) 0:=by unfold wideL;rw[agd h]
theorem wide(q:List Rat)(n:Nat)(hn:n≤1000)(hq:q.length≤n):Cp 158 [pq q,vI (n:Int)] (pq (wideL q n)):=by
 have loop:∀d t:Nat,q.length+t+d=n→gg.ai (n:Int) ((q++List.replicate t 0).map aI) (pq (wideL q n)):=by
  intro d
  induction d with
  |zero =>
   intro t ht;have e:wideL q n=q++List.replicate t 0:=by rw[Dh q hq,show n-q.length=t from by omega]
   rw[e];exact gg.c9 _ _ (by simp;omega)
  |succ d ih =>intro t ht;have:=ih (t+1) (by omega);rw[List.replicate_succ',←ahK,agU] at this;exact gg.l10 _ _ (by simp;omega) (by simp;omega) this
 have:=loop (n-q.length) 0 (by omega);rw[aiT,aif] at this;exact gg.e0 _ _ (by simp;omega) this
theorem IX(q:List Rat)(n:Nat)(hn:n≤1000)(hq:q.length≤n):au bp 158 [.pv (pq q),.pv (vI (n:Int))] [] (.row 0 0 n 3) [(0,(.pure ((((wideL q n).map aI):List ag).map ag.cells).flatten))]:=by
 have loop:∀d t:Nat,q.length+t+d=n→fO.ai (n:Int) ((q++List.replicate t 0).map aI) [] (.row 0 0 n 3) [(0,(.pure ((((wideL q n).map aI):List ag).map ag.cells).flatten))]:=by
  intro d
  induction d with
  |zero =>
   intro t ht;have e:wideL q n=q++List.replicate t 0:=by rw[Dh q hq,show n-q.length=t from by omega]
   rw[e];have:=fO.c9 (n:Int) ((q++List.replicate t 0).map aI) (sin:=[]) rfl rfl (by simp;omega);have e2:(List.map aI (q++List.replicate t (0:Rat))).length=n:=by simp;omega
   rwa[e2] at this
  |succ d ih =>intro t ht;have:=ih (t+1) (by omega);rw[List.replicate_succ',←ahK,agU] at this;exact fO.l10 _ _ rfl (by simp;omega) (by simp;omega) this
 have:=loop (n-q.length) 0 (by omega);rw[aiT,aif] at this;exact fO.e0 _ _ (by simp;omega) this
theorem plus(p q:List Rat)(hp:p.length≤1000)(hq:q.length≤1000)(fp:Fl 68719476736 p)(fq:Fl 68719476736 q):Cp 92 [pq p,pq q] (pq (j8 p q)):=by
 unfold j8;have ln:max (p.map aI).length (q.map aI).length=max p.length q.length:=by rw[afW,afW]
 have hpn:p.length≤max p.length q.length:=ai2 _ _;have QP:q.length≤max p.length q.length:=ahE _ _;generalize hn:max p.length q.length=n at *;have wx:=IX p n (by omega) hpn;have w:=wide q n (by omega) QP;have hA:=cM p n;have hB:=cM q n;have fA:=AW n fp (by omega);have fB:=AW n fq (by omega);generalize wideL p n=A at *;generalize wideL q n=B at *;have loop:∀d t:Nat,n-t=d→t≤n→gh.ai n (B.map aI) t ((List.zipWith (·+·) (A.take t) (B.take t)++A.drop t).map aI) (pq (List.zipWith (·+·) A B)):=by
  intro d
  induction d with
  |zero =>intro t hd ht;rw[show A.take t=A from agd (by omega),show B.take t=B from agd (by omega),agv (by omega),aif];exact gh.c9 n _ t _ (by omega) (by simp;omega)
  |succ d ih =>
   intro t hd ht;obtain⟨v,hv⟩:∃v,A[t]? = some v:=⟨_,afO (by omega)⟩;obtain⟨u,hu⟩:∃v,B[t]? = some v:=⟨_,afO (by omega)⟩;have hl:(List.zipWith (·+·) (A.take t) (B.take t)).length=t:=by simp;omega
   have:=ih (t+1) (by omega) (by omega);rw[agH,agH,hv,hu] at this;refine gh.l10 n _ t _ (aI v) (aI u) (aI (v+u)) (by omega) ?_ (by rw[afT,hu];rfl) (QR.Add v u (fA v (ag4 hv)) (fB u (ag4 hu))) (by simp;omega) (by omega) ?_
   ·rw[afT,aha (by omega),hl,aiq,agS,ahw,hv];rfl
   ·rw[drop_cons hv,agU,agD,uF (by rw[afW];exact hl)];rw[List.zipWith_append (by simp;omega)] at this;simpa using this
 have:=loop _ 0 rfl (by omega);refine gh.e0 _ _ (A.map aI) n (B.map aI) (by rw[ln];exact wx) (by rw[ln];exact w) ?_;simpa using this
theorem less(q:List Rat)(hl:q.length≤1000)(hf:Fl 68719476736 q):Cp 84 [pq q] (pq (q.map (- ·))):=by
 have loop:∀d t:Nat,q.length-t=d→t≤q.length→gi.ai (((q.take t).map (- ·)).map aI) (q.map aI) t (pq (q.map (- ·))):=by
  intro d
  induction d with
  |zero =>intro t hd ht;rw[show q.take t=q from agd (by omega)];exact gi.c9 _ _ t (by rw[afW];omega)
  |succ d ih =>
   intro t hd ht;obtain⟨v,hv⟩:∃v,q[t]? = some v:=⟨_,afO (by omega)⟩;have EC:(q.map aI)[t]? = some (aI v):=by rw[afT,hv];rfl
   have s:=QR.Neg v (hf v (ag4 hv));have:=ih (t+1) (by omega) (by omega);rw[agH,hv,agU,agU] at this;exact gi.l10 _ _ t _ _ (by rw[afW];omega) EC s (by simp;omega) (by omega) this
 have:=loop _ 0 rfl (by omega);rw[List.take_zero] at this;exact gi.e0 _ this
variable {T:Tw}
theorem nE{q:List Rat}{k:Nat}(hk:k≤2)(hl:Lk k q):Cp 16 [pq q] (pq (gX (toQ T q))):=by
 rcases hl with rfl|⟨j,j1,j2⟩
 ·rw[Mg];exact zh
 ·have:=Qa (a:=q.map aI) (k:=j) (by omega) (by rw[afW];exact j2);rwa[TF T (by omega) j2] at this
theorem VR{i j:Nat} : max (2^i) (2^j)=2^max i j:=by
 rcases Nat.le_total i j with h|h
 ·rw[ajG h,ajG (ag6 (by omega) h)]
 ·rw[ajL h,ajL (ag6 (by omega) h)]
theorem uk(ht:Tok T){t:aA}{n:Nat}(hr:Rt t T n):∀k,k≤n→∀(a b:List Rat) (h h':Nat),Lk k a→Lk k b→Hq h (toQ T a)→Hq h' (toQ T b)→1≤h→1≤h'→h+h'+32*k+32≤34359738368 →
  ∃r,Cp 91 [t.pv,pq a,pq b] (pq r)∧Lk k r∧toQ T r=toQ T a*toQ T b:=by
 intro k
 induction k using Nat.strongRecOn with
 |ind k ih =>
  intro hk a b h h' la lb ha hb h1 sQ hs;have hn:=hr.1;have z0:toQ T []=0:=rfl;have sa:=nE (T:=T) (show k≤2 by omega) la;have sb:=nE (T:=T) (show k≤2 by omega) lb;have cl:=mV (E5 (T:=T) la);have dl:=mV (E5 (T:=T) lb);have cq:Hq h (toQ T (gX (toQ T a))):=by rw[dA];exact ha
  have dq:Hq h' (toQ T (gX (toQ T b))):=by rw[dA];exact hb
  have ce:=dA (toQ T a);have de:=dA (toQ T b);generalize gX (toQ T a)=c at sa cl cq ce;generalize gX (toQ T b)=d at sb dl dq de;rw[←ce,←de];have c4:=cl.len (by omega);have d4:=dl.len (by omega);have lc:(c.map aI).length=c.length:=bM _;have ld:(d.map aI).length=d.length:=bM _;rcases cl with rfl|⟨i,i1,i2⟩
  ·exact⟨[],fP.e0 t _ _ [] _ sa sb rfl,.inl rfl,by rw[z0];grind⟩
  have pi:0<2^i:=agL _;rcases dl with rfl|⟨j,j1,j2⟩
  ·exact⟨[],fP.e1 t _ _ _ [] sa sb (by omega) rfl,.inl rfl,by rw[z0];grind⟩
  have pj:0<2^j:=agL _;have yn:max (c.map aI).length (d.map aI).length=2^max i j:=by rw[lc,ld,i2,j2,VR]
  match hm:max i j with
  |0 =>
   have i0:i=0:=by omega
   have j0:j=0:=by omega
   subst i0 j0;obtain⟨x,rfl⟩:=kQ i2;obtain⟨y,rfl⟩:=kQ j2;have m:=QR.Mul x y (by have:=cq.fl h1 c4 x (by simp);omega) (by have:=dq.fl sQ d4 y (by simp);omega);exact⟨[x*y],fP.e2 t _ _ [aI x] [aI y] _ _ _ sa sb (by simp) (by simp) (by simp) (by simp) (by simp) m,.inr ⟨0,ago _,rfl⟩,Q4.L8 x y⟩
  |l+1 =>
   rw[hm] at yn;have p2:2^(l+1)=2^l+2^l:=by rw[agb];omega
   have p0:0<2^l:=agL _;have p4:2^(l+1)≤2^2:=ag6 (by omega) (by omega);have ic:c.length≤2^(l+1):=by rw[i2];exact ag6 (by omega) (by omega)
   have jd:d.length≤2^(l+1):=by rw[j2];exact ag6 (by omega) (by omega)
   have wc:=wide c (2^(l+1)) (by omega) ic;have wd:=wide d (2^(l+1)) (by omega) jd;have ge:=KI T ic;have ie:=KI T jd;have gl:=cM c (2^(l+1));have il:=cM d (2^(l+1));rw[←ge] at cq;rw[←ie] at dq;rw[←ge,←ie];generalize wideL c (2^(l+1))=A at wc gl cq;generalize wideL d (2^(l+1))=B at wd il dq;obtain⟨hx,hy,_,_⟩:=oM gl;obtain⟨hu,hv,_,_⟩:=oM il;have eA:=Da T (show l≤1 by omega) gl;have eB:=Da T (show l≤1 by omega) il;have xq:=cq.take (j:=2^l);have yq:=cq.drop (j:=2^l) (by omega);have uq:=dq.take (j:=2^l);have vq:=dq.drop (j:=2^l) (by omega);have ih:=ih l (by omega) (by omega);have hks:32*l+64≤32*k+32:=by omega
   obtain⟨r1,a1,a2,a3⟩:=ih _ _ h h' hx hu xq uq h1 sQ (by omega);obtain⟨r2,b1,b2,b3⟩:=ih _ _ h h' hy hv yq vq h1 sQ (by omega);have q1:Hq (h+h'+8) (toQ T r1):=by rw[a3];exact Hq.mul ht xq uq
   have q2:Hq (h+h'+8) (toQ T r2):=by rw[b3];exact Hq.mul ht yq vq
   obtain⟨r3,c1,c2,c3⟩:=ih r2 (gx T l) (h+h'+8) 1 b2 (.nC (pI T (by omega))) q2 (ht.root l) (by omega) (by omega) (by omega);have q3:Hq (h+h'+8+1+8) (toQ T r3):=by rw[c3];exact Hq.mul (h:=h+h'+8) (k:=1) ht q2 (ht.root l)
   obtain⟨r4,e1,e2,e3⟩:=ih _ _ h h' hx hv xq vq h1 sQ (by omega);obtain⟨r5,f1,f2,f3⟩:=ih _ _ h h' hy hu yq uq h1 sQ (by omega);have q4:Hq (h+h'+8) (toQ T r4):=by rw[e3];exact Hq.mul ht xq vq
   have q5:Hq (h+h'+8) (toQ T r5):=by rw[f3];exact Hq.mul ht yq uq
   have m1:=plus r1 r3 (by have:=a2.len (by omega);omega) (by have:=c2.len (by omega);omega) (bV (q1.fl (by omega) (a2.len (by omega))) (by omega)) (bV (q3.fl (by omega) (c2.len (by omega))) (by omega));have s1:=plus r4 r5 (by have:=e2.len (by omega);omega) (by have:=f2.len (by omega);omega) (bV (q4.fl (by omega) (e2.len (by omega))) (by omega)) (bV (q5.fl (by omega) (f2.len (by omega))) (by omega));have ml:=oN a2 c2;have sl:=oN e2 f2;obtain⟨g1,g2⟩:=KC T (show l≤1 by omega) ml sl;have wx:=IX (j8 r1 r3) (2^l) (by omega) ml.le;have wy:=wide (j8 r4 r5) (2^l) (by omega) sl.le;have hh:max (c.map aI).length (d.map aI).length/2=2^l:=by rw[yn,p2];omega
   have lA:(A.map aI).length=2^(l+1):=by rw[bM];exact gl
   have lB:(B.map aI).length=2^(l+1):=by rw[bM];exact il
   refine⟨wideL (j8 r1 r3) (2^l)++wideL (j8 r4 r5) (2^l),?_,(Lk.nC g2).mono (by omega),?_⟩
   ·have pw:=wG (k:=l+1) (by omega);have key:=fP.e3 t (a.map aI) (b.map aI) (c.map aI) (d.map aI) (A.map aI) (B.map aI) ((l+1:Nat):Int) true (r1.map aI) (r2.map aI) l _ (r3.map aI) ((j8 r1 r3).map aI) (r4.map aI) (r5.map aI) ((j8 r4 r5).map aI) ((wideL (j8 r1 r3) (2^l)).map aI) (2^l) ((wideL (j8 r4 r5) (2^l)).map aI)
     sa sb (by omega) (by omega) (by rw[yn];omega) (by rw[yn];exact wc) (by rw[yn];exact wd) (by rw[yn];exact pw) (by omega) (by omega) (by omega) (by omega) (by omega)
     (by rw[hh,dB,dB];exact a1) (by rw[hh,dC,dC];exact b1) (by unfold az;omega) (by omega) (hr.2 l (by omega)) c1 m1 (by rw[hh,dB,dC];exact e1) (by rw[hh,dC,dB];exact f1) s1 (by rw[hh];exact wx) (by rw[hh];exact wy) (by rw[afW,cM]) (by rw[agB,afW,afW,cM,cM];omega)
    unfold pq;rwa[agU]
   ·rw[g1,mN,mN,a3,c3,b3,e3,f3,eA,eB,←KD T (show l≤1 by omega)];grind
theorem Qi(ht:Tok T){t:aA}{n:Nat}(hr:Rt t T n){k:Nat}(hk:k+1≤n){a:List Rat}{h:Nat}(hA:a.length=2^(k+1))(ha:Hq h (toQ T a))(h1:1≤h)(hs:4*h+200≤34359738368) :
  ∃r,Cp 98 [t.pv,pq a,vI ((2^(k+1):Nat):Int)] (pq r)∧Lk k r∧toQ T r=toQ T (a.take (2^k))*toQ T (a.take (2^k))-toQ T (a.drop (2^k))*toQ T (a.drop (2^k))*toQ T (gx T k)∧Hq (4*h+30) (toQ T r):=by
 have hn:=hr.1;have p2:2^(k+1)=2^k+2^k:=by rw[agb];omega
 have p4:2^(k+1)≤2^2:=ag6 (by omega) (by omega);obtain⟨hx,hy,_,_⟩:=oM hA;have xq:=ha.take (j:=2^k);have yq:=ha.drop (j:=2^k) (by omega);obtain⟨b,b1,b2,b3⟩:=uk ht hr k (by omega) _ _ h h hx hx xq xq h1 h1 (by omega);obtain⟨c,c1,c2,c3⟩:=uk ht hr k (by omega) _ _ h h hy hy yq yq h1 h1 (by omega);have bq:Hq (h+h+8) (toQ T b):=by rw[b3];exact Hq.mul ht xq xq
 have cq:Hq (h+h+8) (toQ T c):=by rw[c3];exact Hq.mul ht yq yq
 obtain⟨g,g1,g2,g3⟩:=uk ht hr k (by omega) c (gx T k) (h+h+8) 1 c2 (.nC (pI T (by omega))) cq (ht.root k) (by omega) (by omega) (by omega);have gq:Hq (h+h+8+1+8) (toQ T g):=by rw[g3];exact Hq.mul (h:=h+h+8) (k:=1) ht cq (ht.root k)
 have i1:=less g (by have:=g2.len (by omega);omega) (bV (gq.fl (by omega) (g2.len (by omega))) (by omega));have iq:Hq (h+h+8+1+8) (toQ T (g.map (- ·))):=by rw[vC];exact gq.neg
 have il:=Db g2;have j1:=plus b (g.map (- ·)) (by have:=b2.len (by omega);omega) (by have:=il.len (by omega);omega) (bV (bq.fl (by omega) (b2.len (by omega))) (by omega)) (bV (iq.fl (by omega) (il.len (by omega))) (by omega));have BP:(a.map aI).length=2^(k+1):=by rw[bM];exact hA
 have hh:2^(k+1)/2=2^k:=by rw[p2];omega
 have w:=wide a (2^(k+1)) (by omega) (by omega);rw[Nl hA] at w;refine⟨_,pz.e0 t _ _ (a.map aI) _ true (2^(k+1)) (2^(k+1)) (b.map aI) (c.map aI) k _ (g.map aI) _ _ w (wG (k:=k+1) (by omega)) rfl (by omega) (by omega) rfl (by omega) (by omega) (by rw[hh,dB];exact b1) (by rw[hh,dC];exact c1) (by unfold az;omega) (by omega) (hr.2 k (by omega)) g1 i1 j1,oN b2 il,?_,?_⟩
 ·rw[mN,vC,b3,g3,c3];grind
 ·rw[mN];exact(bq.add iq).mono (by omega)
theorem Df(ht:Tok T)(K:tg T){t:aA}{n:Nat}(hr:Rt t T n):∀k,k≤n→∀(a:List Rat) (h:Nat),Lk k a→Hq h (toQ T a)→1≤h→4^k*(h+64)≤1073741824→Cp 48 [t.pv,pq a] (vI (R.fQ (lv K a))):=by
 intro k
 induction k using Nat.strongRecOn with
 |ind k ih =>
  intro hk a h la ha h1 hs;have hn:=hr.1;have p1:0<4^k:=aj6 (by omega);have ab6:h+64≤4^k*(h+64):=aj5 _ p1;have s1:=nE (T:=T) (show k≤2 by omega) la;have bl:=mV (E5 (T:=T) la);have bq:Hq h (toQ T (gX (toQ T a))):=by rw[dA];exact ha
  have bv:=TH K a;rw[←bv];generalize gX (toQ T a)=b at s1 bl bq;have b4:=bl.len (by omega);rcases bl with rfl|⟨j,j1,j2⟩
  ·have e:R.fQ (lv K [])=0:=R.jv.2 (Dd K);rw[e];exact dU.e0 t _ [] s1 rfl
  ·match j,j1,j2 with
   |0,_,j2 =>obtain⟨x,rfl⟩:=kQ j2;have fx:=QR.Sign x (by have:=bq.fl h1 b4 x (by simp);omega);rw[Mh K] at fx;exact dU.e1 t _ [aI x] (aI x) _ s1 (by simp) (by simp) (by simp) fx
   |j+1,j1,j2 =>
    have p2:2^(j+1)=2^j+2^j:=by rw[agb];omega
    have p0:0<2^j:=agL _;obtain⟨hx,hy,_,_⟩:=oM j2;have xq:=bq.take (j:=2^j);have yq:=bq.drop (j:=2^j) b4;have KH:4^(j+1)≤4^k:=ag6 (by omega) j1;have kh:4^(j+1)=4^j*4:=agb ..;have hle:=afU (h+64) KH;have ab7:4^j*(h+64)*4=4^(j+1)*(h+64):=by rw[kh];grind
    have td:1+64≤h+64:=by omega
    have ab8:=aga (4^j) td;have cx:=ih j (by omega) (by omega) _ h hx xq h1 (by omega);have cy:=ih j (by omega) (by omega) _ h hy yq h1 (by omega);have cr:=ih j (by omega) (by omega) (gx T j) 1 (.nC (pI T (by omega))) (ht.root j) (by omega) (by omega);have BP:(b.map aI).length=2^(j+1):=by rw[bM];exact j2
    have hh:(b.map aI).length/2=2^j:=by rw[BP,p2];omega
    have pw:=wG (k:=j+1) (by omega);rw[←BP] at pw;have qH:=hr.2 j (by omega);have n0:(b.map aI).length≠0:=by omega
    have n1:(b.map aI).length≠1:=by omega
    have q4:2^(j+1)≤2^2:=ag6 (by omega) (by omega);obtain⟨r,r1,r2,r3,r4⟩:=Qi ht hr (show j+1≤n by omega) j2 bq h1 (by omega);rw[←BP] at r1;have cn:=ih j (by omega) (by omega) r (4*h+30) r2 r4 (by omega) (by
     have:4^j*(4*h+30+64)≤4^j*((h+64)*4):=aga _ (by omega);have e:4^j*((h+64)*4)=4^j*(h+64)*4:=by grind
     omega)
    have hnv:lv K r=lv K (b.take (2^j))*lv K (b.take (2^j))-lv K (b.drop (2^j))*lv K (b.drop (2^j))*lv K (gx T j):=by unfold lv;rw[r3,Q4.IY,Q4.s6,Q4.s6,Q4.s6]
    obtain⟨g1,g2,g3,g4⟩:=Mb K (show j≤1 by omega) j2 rfl rfl rfl hnv.symm;have rx:=xZ (lv K (b.take (2^j)));have ry:=xZ (lv K (b.drop (2^j)));have rr:=xZ (lv K r);have rd:=Sm K (show j≤1 by omega);generalize R.fQ (lv K (b.take (2^j)))=X at *;generalize R.fQ (lv K (b.drop (2^j)))=Y at *;generalize R.fQ (lv K (gx T j))=D at *;generalize R.fQ (lv K r)=N at *;have Y0:az (Y*D):=by unfold az;rcases ry with e|e|e<;>rcases rd with e'|e'<;>rw[e,e']<;>decide
    have in2:az (X*N):=by unfold az;rcases rx with e|e|e<;>rcases rr with e'|e'|e'<;>rw[e,e']<;>decide
    by_cases c1:X=Y*D
    ·have e:R.fQ (lv K b)=X:=by
      rcases rd with hd|hd
      ·exact g1 hd
      ·rw[hd,Int.mul_one] at c1;exact g2 (.inl c1)
     rw[e];exact dU.e2 t _ (b.map aI) _ true j _ _ _ _ s1 n0 n1 pw (by unfold az;omega) (by omega) qH (by omega) (by omega) (by rw[hh,dB];exact cx) (by omega) (by rw[hh,dC];exact cy) cr Y0 c1
    ·by_cases c2:Y*D=0
     ·have e:R.fQ (lv K b)=X:=by
       rcases rd with hd|hd
       ·exact g1 hd
       ·rw[hd,Int.mul_one] at c2;exact g2 (.inr c2)
      rw[e];exact dU.e3 t _ (b.map aI) _ true j _ _ _ _ s1 n0 n1 pw (by unfold az;omega) (by omega) qH (by omega) (by omega) (by rw[hh,dB];exact cx) (by omega) (by rw[hh,dC];exact cy) cr Y0 c1 c2
     ·have hd:D=1:=by
       rcases rd with hd|hd
       ·rw[hd,Int.mul_zero] at c2;exact absurd rfl c2
       ·exact hd
      have hY:Y*D=Y:=by rw[hd,Int.mul_one]
      have Iy:D≠0:=by omega
      by_cases c3:X=0
      ·rw[g3 Iy c3];have:=dU.e4 t (a.map aI) (b.map aI) _ true j _ _ _ _ s1 n0 n1 pw (by unfold az;omega) (by omega) qH (by omega) (by omega) (by rw[hh,dB];exact cx) (by omega) (by rw[hh,dC];exact cy) cr Y0 c1 c2 c3;rwa[hY] at this
      ·rw[g4 Iy c3 (by omega) (by omega)];exact dU.e5 t _ (b.map aI) _ true j _ _ _ _ (r.map aI) _ s1 n0 n1 pw (by unfold az;omega) (by omega) qH (by omega) (by omega) (by rw[hh,dB];exact cx) (by omega) (by rw[hh,dC];exact cy) cr Y0 c1 c2 c3 r1 cn in2
end NL
end Go.Proofs.YtcpnocgollpbhaaGreatDoor.Sym
namespace Go.Proofs.YtcpnocgollpbhaaGreatDoor.Sym.Wo
open Go Go.Shelf Go.Proofs
set_option maxRecDepth 20000
def rJ:Ren:=⟨fun n=>match n with|129=>247|156=>146|165=>193|166=>194|169=>196|171=>144|240=>230|241=>231|243=>190|246=>226|276=>243|277=>244|283=>239|284=>240|285=>241|286=>242|317=>246|318=>248|319=>249|320=>250|337=>251|338=>252|n=>n,
 fun n=>match n with|0=>0|2=>2|3=>3|4=>4|5=>5|9=>9|20=>20|31=>174|37=>208|46=>146|51=>112|53=>145|70=>207|72=>210|75=>31|76=>58|80=>214|127=>233|164=>243|171=>238|173=>241|212=>248|213=>249|232=>252|233=>253|n=>n,
 fun n=>match n with|17=>0|18=>2|19=>3|n=>n⟩
theorem Mi:Lays.n156 Tryz.prog rJ where
 mixed:=by kernel_rfl
 f156:=Tryz.func146.trans (ah8 some (by kernel_rfl))
 f165:=Tryz.func193.trans (ah8 some (by kernel_rfl))
 f166:=Tryz.func194.trans (ah8 some (by kernel_rfl))
 f169:=Tryz.func196.trans (ah8 some (by kernel_rfl))
 f240:=Tryz.func230.trans (ah8 some (by kernel_rfl))
 f241:=Tryz.func231.trans (ah8 some (by kernel_rfl))
 f276:=Tryz.func243.trans (ah8 some (by kernel_rfl))
 f277:=Tryz.func244.trans (ah8 some (by kernel_rfl))
 t0:=Tryz.underlying0
 a0:=Tryz.isAgg0
 z0:=Tryz.sizeOf0
 v0:=Tryz.zeroValue0
 t3:=Tryz.underlying3
 a3:=Tryz.isAgg3
 z3:=Tryz.sizeOf3
 v3:=Tryz.zeroValue3
 t4:=Tryz.underlying4
 a4:=Tryz.isAgg4
 z4:=Tryz.sizeOf4
 v4:=Tryz.zeroValue4
 t9:=Tryz.underlying9
 a9:=Tryz.isAgg9
 z9:=Tryz.sizeOf9
 v9:=Tryz.zeroValue9
 t20:=Tryz.underlying20
 a20:=Tryz.isAgg20
 z20:=Tryz.sizeOf20
 v20:=Tryz.zeroValue20
 t31:=Tryz.underlying174
 a31:=Tryz.isAgg174
 z31:=Tryz.sizeOf174
 v31:=Tryz.zeroValue174
 t37:=Tryz.underlying208
 a37:=Tryz.isAgg208
 z37:=Tryz.sizeOf208
 v37:=Tryz.zeroValue208
 t70:=Tryz.underlying207
 a70:=Tryz.isAgg207
 z70:=Tryz.sizeOf207
 v70:=Tryz.zeroValue207
 t72:=Tryz.underlying210
 a72:=Tryz.isAgg210
 z72:=Tryz.sizeOf210
 v72:=Tryz.zeroValue210
 t75:=Tryz.underlying31
 a75:=Tryz.isAgg31
 z75:=Tryz.sizeOf31
 v75:=Tryz.zeroValue31
 t76:=Tryz.underlying58
 a76:=Tryz.isAgg58
 z76:=Tryz.sizeOf58
 v76:=Tryz.zeroValue58
 t127:=Tryz.underlying233
 a127:=Tryz.isAgg233
 z127:=Tryz.sizeOf233
 v127:=Tryz.zeroValue233
 t164:=Tryz.underlying243
 a164:=Tryz.isAgg243
 z164:=Tryz.sizeOf243
 v164:=Tryz.zeroValue243
theorem Sp:Lays.n171 Tryz.prog rJ where
 mixed:=by kernel_rfl
 f129:=Tryz.func247.trans (ah8 some (by kernel_rfl))
 f171:=Tryz.func144.trans (ah8 some (by kernel_rfl))
 f243:=Tryz.func190.trans (ah8 some (by kernel_rfl))
 f246:=Tryz.func226.trans (ah8 some (by kernel_rfl))
 f283:=Tryz.func239.trans (ah8 some (by kernel_rfl))
 f284:=Tryz.func240.trans (ah8 some (by kernel_rfl))
 f285:=Tryz.func241.trans (ah8 some (by kernel_rfl))
 f286:=Tryz.func242.trans (ah8 some (by kernel_rfl))
 f317:=Tryz.func246.trans (ah8 some (by kernel_rfl))
 f318:=Tryz.func248.trans (ah8 some (by kernel_rfl))
 f319:=Tryz.func249.trans (ah8 some (by kernel_rfl))
 f320:=Tryz.func250.trans (ah8 some (by kernel_rfl))
 f337:=Tryz.func251.trans (ah8 some (by kernel_rfl))
 f338:=Tryz.func252.trans (ah8 some (by kernel_rfl))
 t0:=Tryz.underlying0
 a0:=Tryz.isAgg0
 z0:=Tryz.sizeOf0
 v0:=Tryz.zeroValue0
 t2:=Tryz.underlying2
 a2:=Tryz.isAgg2
 z2:=Tryz.sizeOf2
 v2:=Tryz.zeroValue2
 t3:=Tryz.underlying3
 a3:=Tryz.isAgg3
 z3:=Tryz.sizeOf3
 v3:=Tryz.zeroValue3
 t4:=Tryz.underlying4
 a4:=Tryz.isAgg4
 z4:=Tryz.sizeOf4
 v4:=Tryz.zeroValue4
 t5:=Tryz.underlying5
 a5:=Tryz.isAgg5
 z5:=Tryz.sizeOf5
 v5:=Tryz.zeroValue5
 t9:=Tryz.underlying9
 a9:=Tryz.isAgg9
 z9:=Tryz.sizeOf9
 v9:=Tryz.zeroValue9
 t20:=Tryz.underlying20
 a20:=Tryz.isAgg20
 z20:=Tryz.sizeOf20
 v20:=Tryz.zeroValue20
 t37:=Tryz.underlying208
 a37:=Tryz.isAgg208
 z37:=Tryz.sizeOf208
 v37:=Tryz.zeroValue208
 t46:=Tryz.underlying146
 a46:=Tryz.isAgg146
 z46:=Tryz.sizeOf146
 v46:=Tryz.zeroValue146
 t51:=Tryz.underlying112
 a51:=Tryz.isAgg112
 z51:=Tryz.sizeOf112
 v51:=Tryz.zeroValue112
 t53:=Tryz.underlying145
 a53:=Tryz.isAgg145
 z53:=Tryz.sizeOf145
 v53:=Tryz.zeroValue145
 t171:=Tryz.underlying238
 a171:=Tryz.isAgg238
 z171:=Tryz.sizeOf238
 v171:=Tryz.zeroValue238
 t173:=Tryz.underlying241
 a173:=Tryz.isAgg241
 z173:=Tryz.sizeOf241
 v173:=Tryz.zeroValue241
 t212:=Tryz.underlying248
 a212:=Tryz.isAgg248
 z212:=Tryz.sizeOf248
 v212:=Tryz.zeroValue248
 t213:=Tryz.underlying249
 a213:=Tryz.isAgg249
 z213:=Tryz.sizeOf249
 t232:=Tryz.underlying252
 a232:=Tryz.isAgg252
 z232:=Tryz.sizeOf252
 v232:=Tryz.zeroValue252
 t233:=Tryz.underlying253
 a233:=Tryz.isAgg253
 z233:=Tryz.sizeOf253
 v233:=Tryz.zeroValue253
 g17:=by kernel_rfl
 g18:=by kernel_rfl
 g19:=by kernel_rfl
theorem extra:Builder.Extra Tryz.prog rJ where
 sizeBuilder:=by kernel_rfl
 liesBuilder:=by kernel_rfl
 t5:=Tryz.underlying5
 a5:=Tryz.isAgg5
 z5:=Tryz.sizeOf5
 v5:=Tryz.zeroValue5
 infoByte:=by kernel_rfl
 cellsByte:=by kernel_rfl
 sizeByte:=by kernel_rfl
 neB5:=by decide
end Go.Proofs.YtcpnocgollpbhaaGreatDoor.Sym.Wo
namespace Go.Proofs.YtcpnocgollpbhaaGreatDoor.Sym
open Go Go.RowKit
set_option linter.unusedVariables false
theorem l7.mk' {P : Program} {f : FuncId} {fn : Func} (h : P.funcs[f]? = some fn) (hb : (fn.body.isSome && !(fn.name == "runtime.NumGoroutine")) = true) : l7 P f := by rw [afX, ahd] at hb;exact ⟨fn, h, hb.1, hb.2⟩
theorem eu.Qj{P:Program}{f:FuncId}{args:List PV}{r:PV}(hc:l7 P f)
  (h:∀(I:Nat→Prop) (w:World) (vs:Array Value),(∀b,I b→b<w.heap.size)→args.length=vs.size →
   (∀(j:Nat) p v,args[j]? = some p→vs[j]? = some v→Rd I w p v)→tn [] (fun _=>none) w →
   Calls P f vs w (fun e w'=>∃v,e = .returned v∧Rd (fun b=>I b∨fresh w w' b) w' r v∧Below w.heap.size w w')):eu P f args r:=by
 refine⟨hc,fun I w β vs hI _ hl hr hy=>(h I w vs hI (by simpa using hl) (fun j p v hp hv=>hr j (.pv p) v (by rw[List.getElem?_map,hp];rfl) hv) hy.nil).mono ?_⟩
 rintro e w' ⟨v,he,hv,hb⟩
 refine⟨v,β,he,fun _ _ _=>rfl,lJ.Hu ⟨hb,fun s=>by unfold Y7 at s;exact s.elim⟩,uo _ _ _,?_,fun x b hx=>absurd hx pQ⟩;exact Rd.mono hv (fun b hb=>hb.imp id (fun hf=>⟨Or.inl hf,(fun x hx=>absurd hx pQ)⟩)) (fun _ _ _=>rfl)
theorem eu.Mj{P:Program}{f:FuncId}{args:List PV}{r:PV}(hc:l7 P f)
  (h:∀(I:Nat→Prop) (w:World) (vs:Array Value),(∀b,I b→b<w.heap.size)→args.length=vs.size →
   (∀(j:Nat) p v,args[j]? = some p→vs[j]? = some v→Rd I w p v) →
   Calls P f vs w (fun e w'=>∃v,e = .returned v∧Rd (fun b=>I b∨fresh w w' b) w' r v∧Below w.heap.size w w')):eu P f args r :=
 eu.Qj hc (fun I w vs h1 h2 h3 _=>h I w vs h1 h2 h3)
theorem Sr{I:Nat→Prop}{w:World}{k:IntKind}{n:Int}{v:Value}(h:Rd I w (.int k n) v):v = .int k n:=by cases h;rfl
theorem Mk{I:Nat→Prop}{w:World}{s:ByteArray}{v:Value}(h:Rd I w (.str s) v):v = .string s:=by cases h;rfl
def dig(n:Nat):ByteArray:=⟨(Lib.decDigits n).toArray⟩
theorem KJ(n:Nat)(h:n<100):Cp 144 [vI (n:Int)] (.str (dig n)):=by
 refine eu.Mj (l7.mk' Tryz.func144 (by kernel_rfl)) (fun I w vs hI hl hr => ?_);obtain⟨v,rfl⟩:∃v,vs = #[v]:=by
  match vs,hl with
  |⟨[v]⟩,_=>exact⟨v,rfl⟩
 have hv:=Sr (hr 0 _ v rfl rfl);subst hv;refine Calls.mono (Any.strconv_Itoa_small Wo.Sp n h w) ?_
 rintro e w' ⟨he,rfl⟩
 exact⟨_,he,.str _,Below.refl _ _⟩
def Qk(l:List ByteArray)(sep:ByteArray):ByteArray:=⟨(Lib.join (l.map (·.data.toList)) sep.data.toList).toArray⟩
theorem aba(l:List ByteArray)(sep:ByteArray)(hn:l.length≤140737488355328)(hlen:(Lib.join (l.map (·.data.toList)) sep.data.toList).length≤140737488355328) :
  Cp 146 [dp kf l,.str sep] (.str (Qk l sep)):=by
 refine eu.Mj (l7.mk' Tryz.func146 (by kernel_rfl)) (fun I w vs hI hl hr => ?_);obtain⟨v,u,rfl⟩:∃v u,vs = #[v,u]:=by
  match vs,hl with
  |⟨[v,u]⟩,_=>exact⟨v,u,rfl⟩
 have hu:=Mk (hr 1 _ u rfl rfl);subst hu;have hv:Rd I w (.list (l.map kf)) v:=hr 0 _ v rfl rfl;cases l with
 |nil =>
  have:∃a c,v = .slice a 0 c:=by
   generalize hx:(PV.list (([]:List ByteArray).map kf))=x at hv;cases hv with
   |nil a c=>exact⟨a,c,rfl⟩
   |list xs b o c s f hc hb hs ho h =>
    injection hx with hx
    subst hx;exact⟨_,c,rfl⟩
   |_=>cases hx
  obtain⟨a,c,rfl⟩:=this;refine Calls.mono (Any.strings_Join_none Wo.Mi Wo.extra a c sep w) ?_
  rintro e w' ⟨he,rfl⟩
  exact⟨_,he,.str _,Below.refl _ _⟩
 |cons x0 r =>
  have:∃b o c,v = .slice (some ⟨b,o,none⟩) (x0::r).length c∧(x0::r).length≤c∧I b∧∀(j:Nat) x,(x0::r)[j]? = some x→w.cell? ⟨b,o+j,none⟩=some (.string x):=by
   generalize hx:(PV.list ((x0::r).map kf))=x at hv;cases hv with
   |list xs b o c s f hc hb hs ho h =>
    injection hx with hx
    subst hx;have hs1:s=1:=by have:=hs 0 _ rfl;simpa[kf] using this.symm
    subst hs1;refine⟨b,o,c,by rw[afW],by simpa using hc,hb,fun j x hj => ?_⟩;have ym:((x0::r).map kf)[j]? = some (kf x):=by rw[afT,hj];rfl
    have h1:=(ho j 0 _ (.str x) ym rfl).2;have h2:=Mk (h j 0 _ (.str x) ym rfl);rw[h2] at h1;simpa using h1
   |_=>cases hx
  obtain⟨b,o,c,rfl,hc,hb,O4⟩:=this;refine Calls.mono (Any.strings_Join Wo.Mi Wo.extra b o c (x0::r) sep w O4 (hI b hb) hn hc hlen) ?_
  rintro e w' ⟨he,hw⟩
  exact⟨_,he,.str _,hw⟩
end Go.Proofs.YtcpnocgollpbhaaGreatDoor.Sym
namespace Go.Proofs.YtcpnocgollpbhaaGreatDoor.Sym
open Go Path cF
set_option linter.unusedVariables false
def numT(n:Int):ByteArray:=if n<0 then ByteArray.mk #[45]++dig n.natAbs else dig n.natAbs
def ratT(q:Rat):ByteArray:=if (q.den:Int)=1 then numT q.num else numT q.num++ByteArray.mk #[47]++numT (q.den:Int)
theorem uS{n:Nat}(h:n<10):dig n=ByteArray.mk #[UInt8.ofNat (48+n)]:=by unfold dig;rw[Lib.decDigits,dif_pos h]
theorem I2{n:Nat}(h:n<1000000000):(dig n).size≤10:=by
 have key:∀(k n:Nat),n<10^(k+1)→(Lib.decDigits n).length≤k+1:=by
  intro k
  induction k with
  |zero =>intro n h;rw[Lib.decDigits,dif_pos (by omega)];exact afY _
  |succ k ih =>
   intro n h;by_cases h9:n<10
   ·rw[Lib.decDigits,dif_pos h9];simp
   ·rw[Lib.decDigits,dif_neg h9,agB,ahj];have:=ih (n/10) (by rw[agb] at h;omega);omega
 have:=key 8 n (by omega);show(Lib.decDigits n).toArray.size≤10;rw[aic];omega
theorem join_one(x sep:ByteArray):Qk [x] sep=x:=by unfold Qk;rw[agD,aiE,Lib.join_one]
theorem E6{n:Int}(h:n.natAbs<1000000000):(numT n).size≤11:=by
 have:=I2 h;unfold numT;split
 ·rw[ajc];have e:(ByteArray.mk #[45]).size=1:=rfl;omega
 ·omega
namespace Y1
theorem X2(n:Int)(h:n.natAbs<1000000000)(hI:n≠0→Cp 144 [vI (n.natAbs:Int)] (.str (dig n.natAbs))):Cp 76 [(whole n).pv] (.str (numT n)):=by
 have hl:(words n.natAbs).length≤1:=fo (by omega);have q8:Fit (whole n).cD:=by show Fit (words n.natAbs);unfold Fit;omega
 have hm:=cF.cD (whole n) q8;have hn:=cF.neg (whole n) q8;rw[aC] at hm hn;by_cases h0:n=0
 ·subst h0;have e:numT 0=ByteArray.mk #[48]:=by
   unfold numT;rw[ag7 (by omega),show Int.natAbs 0=0 from rfl,uS (by omega)];rfl
  rw[e];exact iS.e0 _ _ hm rfl
 ·have hw:(words n.natAbs).length≠0:=fun e=>h0 (by have:=dF.1 e;omega)
  have hs:=cF.short (words n.natAbs) (1000000000:UInt32) (by omega) (by decide);rw[aB,show(1000000000:UInt32).toNat=1000000000 from rfl,ai7 h,agu h,fJ] at hs;have hv:(UInt32.ofNat n.natAbs).toNat=n.natAbs:=by rw[uB];exact agu (by omega)
  have hi:Cp 144 [vI ((UInt32.ofNat n.natAbs).toNat:Int)] (.str (dig n.natAbs)):=by rw[hv];exact hI h0
  have hd:=I2 h;have hj:=aba [dig n.natAbs] (ByteArray.mk #[]) (by simp) (by rw[agD,aiE,Lib.join_one,aie];have:(dig n.natAbs).data.size=(dig n.natAbs).size:=rfl;omega)
  rw[join_one] at hj;have hN:iS.ai [] [dig n.natAbs] (whole n) (.str (numT n)):=by
   by_cases hneg:n<0
   ·have:=iS.kA [] _ _ _ _ (by simp) hj hn (agq hneg) (by
     have e:(ByteArray.mk #[45]).size=1:=rfl;omega)
    unfold numT;rw[ag9 hneg];exact this
   ·have:=iS.uA [] _ _ _ _ (by simp) hj hn (ags hneg);unfold numT;rw[ag7 hneg];exact this
  exact iS.e1 _ _ hm hw (iS.c9 _ [] _ _ _ _ (by omega) hs hi (by simp) (by simp) hN)
theorem z7(n:Int)(h:n.natAbs<100):Cp 76 [(whole n).pv] (.str (numT n)):=X2 n (by omega) (fun _=>KJ _ h)
theorem X3(q:Rat)(h1:q.num.natAbs<1000000000)(h2:q.den<1000000000)(hN:Cp 76 [(whole q.num).pv] (.str (numT q.num)))(hD:Cp 76 [(whole (q.den:Int)).pv] (.str (numT (q.den:Int)))):Cp 31 [(aI q).pv] (.str (ratT q)):=by
 have l1:wl q.num≤1:=fo (by omega);have l2:wl (q.den:Int)≤1:=fo (by rw[agi];omega);have hh:ht q≤1:=ajB.2 ⟨l1,l2⟩;have hp:=tf.lO (aI q) (oH (by omega));rw[b9] at hp;have hc:=cF.xG (whole (q.den:Int)) (whole 1) (show Fit (whole (q.den:Int)).cD from ag3 l2 (by omega)) (by decide);rw[aC,aC] at hc;have s1:=E6 h1;have s2:=E6 (n:=(q.den:Int)) (by rw[agi];exact h2);by_cases hd:(q.den:Int)=1
 ·have:=qS.e0 _ _ _ _ _ _ hp tf.one hc (by rw[hd];rfl) hN;unfold ratT;rw[ag9 hd];exact this
 ·have e:(ByteArray.mk #[47]).size=1:=rfl;have zS:dV (q.den:Int) 1≠0:=by
   unfold dV;intro hx;split at hx
   ·cases hx
   ·omega
  have:=qS.e1 _ _ _ _ _ _ _ hp tf.one hc zS hN (by omega) hD (by rw[ajc];omega);unfold ratT;rw[ag7 hd];exact this
theorem um(q:Rat)(h1:q.num.natAbs<100)(h2:q.den<100):Cp 31 [(aI q).pv] (.str (ratT q)) :=
 X3 q (by omega) (by omega) (z7 _ h1) (z7 _ (by rw[agi];exact h2))
end Y1
namespace Jf
theorem of(l:List Int)(h:∀n∈l,az n)(hl:l.length≤1000):Cp 27 [dp gF l] (pq (l.map (fun n=>((n:Int):Rat)))):=by
 have loop:∀d t:Nat,l.length-t=d→t≤l.length→iu.ai (((l.take t).map (fun n=>((n:Int):Rat))).map aI) l t (pq (l.map (fun n=>((n:Int):Rat)))):=by
  intro d
  induction d with
  |zero =>
   intro t hd ht;have:t=l.length:=by omega
   subst this;rw[List.take_length];exact iu.c9 _ _ _ (afY _)
  |succ d ih =>
   intro t hd ht;obtain⟨v,hv⟩:∃v,l[t]? = some v:=⟨_,afO (by omega)⟩;have:=ih (t+1) (by omega) (by omega);rw[agH,hv] at this;refine iu.l10 _ l t v (aI ((v:Int):Rat)) (by omega) hv (Vd.Of v (h v (ag4 hv))) ?_ (by omega) ?_
   ·rw[agB,afW,afW,agh,ahj];omega
   ·simpa using this
 exact iu.e0 l (loop _ 0 rfl (by omega))
def Lo(a:ag):Prop:=a.num.length≤1∧a.den.length≤1∧nat a.num≤1000∧nat a.den≤1000
theorem Ml{l:Words}{v:UInt32}(hl:l.length<2)(h:l[0]? = some v):nat l=v.toNat:=by
 match l,hl,h with
 |[w],_,h=>simp at h;subst h;simp[nat]
theorem Di{l:Words}(h:l.length=0):nat l=0:=by rw[afP h];rfl
theorem low(x:ag):∃b,Cp 67 [x.pv,vW 1000,vW 1000] (vB b)∧(b=true→Lo x):=by
 have e:(1000:UInt32).toNat=1000:=rfl;by_cases h1:x.num.length<2
 ·by_cases h2:x.den.length<2
  ·have den:nat x.num≤1000→∀v u:UInt32,x.den[0]? = some u→decide (u.toNat≤(1000:UInt32).toNat)=true→Lo x:=fun h v u hu hd=>⟨by omega,by omega,h,by rw[Ml h2 hu];have:=ahI hd;omega⟩
   by_cases h3:x.num.length=0
   ·have hn:nat x.num≤1000:=by rw[Di h3];omega
    by_cases h4:x.den.length=0
    ·exact⟨_,dH.e0 x _ _ h1 h2 h3 h4,fun _=>⟨by omega,by omega,hn,by rw[Di h4];omega⟩⟩
    ·obtain⟨v,hv⟩:∃v,x.den[0]? = some v:=⟨_,afO (by omega)⟩;exact⟨_,dH.e1 x _ _ v h1 h2 h3 h4 hv,fun h=>den hn v v hv (by have h':=ahI h;exact agq (by omega))⟩
   ·obtain⟨v,hv⟩:∃v,x.num[0]? = some v:=⟨_,afO (by omega)⟩;by_cases h5:v.toNat≤(1000:UInt32).toNat
    ·have hn:nat x.num≤1000:=by rw[Ml h1 hv];omega
     by_cases h4:x.den.length=0
     ·exact⟨_,dH.e2 x _ _ v h1 h2 h3 hv h5 h4,fun _=>⟨by omega,by omega,hn,by rw[Di h4];omega⟩⟩
     ·obtain⟨u,hu⟩:∃v,x.den[0]? = some v:=⟨_,afO (by omega)⟩;exact⟨_,dH.e3 x _ _ v u h1 h2 h3 hv h5 h4 hu,fun h=>den hn v u hu (by have h':=ahI h;exact agq (by omega))⟩
    ·exact⟨_,dH.e4 x _ _ v h1 h2 h3 hv (by omega),fun h=>by cases h⟩
  ·exact⟨_,dH.e5 x _ _ h1 (by omega),fun h=>by cases h⟩
 ·exact⟨_,dH.e6 x _ _ (by omega),fun h=>by cases h⟩
theorem short(l:List ag):∃b,Cp 25 [ae l] (vB b)∧(b=true→l.length≤6∧∀a∈l,Lo a):=by
 by_cases h6:l.length≤6
 ·have loop:∀d t:Nat,l.length-t=d→∃b,dE.ai l t (vB b)∧(b=true→∀a∈l.drop t,Lo a):=by
   intro d
   induction d with
   |zero=>intro t hd;exact⟨true,dE.kA l t (by omega),fun _=>by rw[agv (by omega)];intro a ha;cases ha⟩
   |succ d ih =>
    intro t hd;obtain⟨v,hv⟩:∃v,l[t]? = some v:=⟨_,afO (by omega)⟩;obtain⟨b1,h1,h2⟩:=low v;cases b1 with
    |false=>exact⟨false,dE.l10 l t v _ (by omega) hv h1 rfl,fun h=>by cases h⟩
    |true =>
     obtain⟨b,g1,g2⟩:=ih (t+1) (by omega);refine⟨b,dE.c9 l t v _ (by omega) hv h1 rfl (by omega) g1,fun h a ha => ?_⟩;rw[drop_cons hv] at ha;rcases agp.1 ha with rfl|ha
     ·exact h2 rfl
     ·exact g2 h a ha
  obtain⟨b,h1,h2⟩:=loop _ 0 rfl;rw[ah3] at h2;exact⟨b,dE.e1 l h6 h1,fun h=>⟨h6,h2 h⟩⟩
 ·exact⟨false,dE.e0 l (by omega),fun h=>by cases h⟩
end Jf
theorem A4{a:ag}(h:Jf.Lo a):∃(n:Int) (D:Nat),D≠0∧D≤1000∧a.val*(((D:Nat):Int):Rat)=(n:Rat)∧n.natAbs≤1000:=by
 obtain⟨_,_,h3,h4⟩:=h;by_cases hc:(a.valid && !a.num.isEmpty)=true
 ·by_cases hd:nat a.den=0
  ·refine⟨0,1,by omega,by omega,?_,by decide⟩;unfold ag.val;rw[hc,afZ,hd];rw[show (((0:Nat):Int))=0 from rfl,Rat.divInt_zero,agJ];rfl
  ·refine⟨bif a.neg then -(nat a.num:Int) else (nat a.num:Int),nat a.den,hd,h4,?_,?_⟩
   ·unfold ag.val;rw[hc,afZ,agK,agj (qC (by omega))]
   ·cases a.neg with
    |true=>rw[afZ];omega
    |false=>rw[agf];omega
 ·refine⟨0,1,by omega,by omega,?_,by decide⟩;unfold ag.val;rw[ah5] at hc;rw[hc,agf,agJ];rfl
theorem Dj{a:ag}(h:Jf.Lo a):kS a:=⟨ag3 h.1 (by omega),ag3 h.2.1 (by omega)⟩
def GS(m:Nat):Int:=if m=1 then 0 else if m=2 then 1 else if m=4 then 2 else -1
def wH(L:Nat)(a:List ag):Int:=if a.length≠0∧(GS a.length<0∨(L:Int)<GS a.length) then 10 else if a.all ag.valid then 0 else 2
namespace tc
theorem VS{a:List ag}(h:a.length≤6):Cp 114 [ae a] (vI (GS a.length)):=by
 have:a.length=0∨a.length=1∨a.length=2∨a.length=3∨a.length=4∨a.length=5∨a.length=6:=by omega
 rcases this with e|e|e|e|e|e|e
 ·rw[afP e];exact E2
 ·rw[e];exact level (k:=0) (by omega) e
 ·rw[e];exact level (k:=1) (by omega) e
 ·rw[e];exact bS.e0 a (bS.l10 a 0 (by omega) (by decide) (by omega) (by omega) (bS.l10 a 1 (by omega) (by decide) (by omega) (by omega) (bS.c9 a 2 (by omega) (by decide) (by omega) (by omega))))
 ·rw[e];exact level (k:=2) (by omega) e
 ·rw[e];exact bS.e0 a (bS.l10 a 0 (by omega) (by decide) (by omega) (by omega) (bS.l10 a 1 (by omega) (by decide) (by omega) (by omega) (bS.l10 a 2 (by omega) (by decide) (by omega) (by omega) (bS.c9 a 3 (by omega) (by decide) (by omega) (by omega)))))
 ·rw[e];exact bS.e0 a (bS.l10 a 0 (by omega) (by decide) (by omega) (by omega) (bS.l10 a 1 (by omega) (by decide) (by omega) (by omega) (bS.l10 a 2 (by omega) (by decide) (by omega) (by omega) (bS.c9 a 3 (by omega) (by decide) (by omega) (by omega)))))
theorem oO(t:aA){a:List ag}(h:a.length≤6)(hf:∀x∈a,kS x):Cp 113 [t.pv,ae a] (bJ (zT (wH t.roots.length a))):=by
 have loop:∀d s:Nat,a.length-s=d→fT.ai a s (bJ (zT (if (a.drop s).all ag.valid then 0 else 2))):=by
  intro d
  induction d with
  |zero =>intro s hd;rw[agv (by omega)];exact fT.kA a s (by omega)
  |succ d ih =>
   intro s hd;obtain⟨v,hv⟩:∃v,a[s]? = some v:=⟨_,afO (by omega)⟩;have hV:=tf.Valid v (hf v (ag4 hv));rw[ui hv];cases hb:v.valid with
   |false =>rw[hb] at hV;rw[ahf];exact fT.l10 a s v _ (by omega) hv hV rfl
   |true =>rw[hb] at hV;rw[ahc];exact fT.c9 a s v _ (by omega) hv hV rfl (by omega) (ih (s+1) (by omega))
 have l0:=loop _ 0 rfl;rw[ah3] at l0;unfold wH;by_cases h0:a.length=0
 ·rw[ag7 (fun e=>e.1 h0)];exact fT.e3 t a (by omega) l0
 ·have lv:=VS h;by_cases h1:GS a.length<0
  ·rw[ag9 ⟨h0,.inl h1⟩];exact fT.e0 t a _ (by omega) lv h1
  ·by_cases h2:(t.roots.length:Int)<GS a.length
   ·rw[ag9 ⟨h0,.inr h2⟩];exact fT.e1 t a _ (by omega) lv (by omega) h2
   ·rw[ag7 (fun e=>e.2.elim h1 h2)];exact fT.e2 t a _ (by omega) lv (by omega) (by omega) l0
end tc
namespace NL
theorem VT{m:Nat}(h:m≤6):∃c d,Cp 49 [vI ((m:Nat):Int)] (.aF [vI c,vB d])∧(GS m<0→d=false)∧(0≤GS m→d=true∧c=GS m):=by
 have:m=0∨m=1∨m=2∨m=3∨m=4∨m=5∨m=6:=by omega
 rcases this with e|e|e|e|e|e|e<;>subst e
 ·exact⟨_,_,Dg (by decide),fun _=>rfl,fun e=>absurd e (by decide)⟩
 ·exact⟨_,_,wG (k:=0) (by omega),fun e=>absurd e (by decide),fun _=>⟨rfl,rfl⟩⟩
 ·exact⟨_,_,wG (k:=1) (by omega),fun e=>absurd e (by decide),fun _=>⟨rfl,rfl⟩⟩
 ·exact⟨_,_,Dg (by decide),fun _=>rfl,fun e=>absurd e (by decide)⟩
 ·exact⟨_,_,wG (k:=2) (by omega),fun e=>absurd e (by decide),fun _=>⟨rfl,rfl⟩⟩
 ·exact⟨_,_,Dg (by decide),fun _=>rfl,fun e=>absurd e (by decide)⟩
 ·exact⟨_,_,Dg (by decide),fun _=>rfl,fun e=>absurd e (by decide)⟩
theorem oO(L:Nat){a:List ag}(h:a.length≤6)(hf:∀x∈a,kS x):Cp 15 [vI (L:Int),ae a] (vI (wH L a)):=by
 have loop:∀d s:Nat,a.length-s=d→b8.ai a s (vI (if (a.drop s).all ag.valid then 0 else 2)):=by
  intro d
  induction d with
  |zero =>intro s hd;rw[agv (by omega)];exact b8.kA a s (by omega)
  |succ d ih =>
   intro s hd;obtain⟨v,hv⟩:∃v,a[s]? = some v:=⟨_,afO (by omega)⟩;have hV:=Vd.Valid v (hf v (ag4 hv));rw[ui hv];cases hb:v.valid with
   |false =>rw[hb] at hV;rw[ahf];exact b8.l10 a s v _ (by omega) hv hV rfl
   |true =>rw[hb] at hV;rw[ahc];exact b8.c9 a s v _ (by omega) hv hV rfl (by omega) (ih (s+1) (by omega))
 have l0:=loop _ 0 rfl;rw[ah3] at l0;unfold wH;obtain⟨c,d,p1,p2,p3⟩:=VT h;by_cases h0:a.length=0
 ·rw[ag7 (fun e=>e.1 h0)];exact b8.e3 _ a _ _ p1 h0 l0
 ·by_cases h1:GS a.length<0
  ·rw[ag9 ⟨h0,.inl h1⟩];exact b8.e0 _ a _ _ p1 h0 (p2 h1)
  ·obtain⟨q1,q2⟩:=p3 (by omega);by_cases h2:(L:Int)<GS a.length
   ·rw[ag9 ⟨h0,.inr h2⟩];exact b8.e1 _ a _ _ p1 h0 q1 (by omega)
   ·rw[ag7 (fun e=>e.2.elim h1 h2)];exact b8.e2 _ a _ _ p1 h0 q1 (by omega) l0
end NL
theorem zj{L:Nat}{a:List ag}(hl:a.length≤6)(h:wH L a=0):a=(dk a).map aI∧Lk L (dk a):=by
 unfold wH at h;have vl:(dk a).length=a.length:=by unfold dk;rw[afW]
 by_cases hc:a.length≠0∧(GS a.length<0∨(L:Int)<GS a.length)
 ·rw[ag9 hc] at h;exact absurd h (by decide)
 ·rw[ag7 hc] at h;by_cases hv:a.all ag.valid=true
  ·refine⟨?_,?_⟩
   ·unfold dk;rw[aia];have:∀x∈a,(aI ∘ ag.val) x=x:=fun x hx=>yQ (agy.1 hv x hx)
    conv=>lhs;rw[←ajO a]
    exact(ahW (fun x hx=>(this x hx))).symm
   ·by_cases h0:a.length=0
    ·exact .inl (afP (by omega))
    ·have h1:¬GS a.length<0:=fun e=>hc ⟨h0,.inl e⟩
     have h2:¬(L:Int)<GS a.length:=fun e=>hc ⟨h0,.inr e⟩
     right;have:a.length=1∨a.length=2∨a.length=3∨a.length=4∨a.length=5∨a.length=6:=by omega
     rcases this with e|e|e|e|e|e<;>rw[e] at h1 h2 vl
     ·exact⟨0,ago _,vl⟩
     ·exact⟨1,by have:GS 2=1:=rfl;omega,vl⟩
     ·exact absurd (by decide) h1
     ·exact⟨2,by have:GS 4=2:=rfl;omega,vl⟩
     ·exact absurd (by decide) h1
     ·exact absurd (by decide) h1
  ·rw[ag7 hv] at h;exact absurd h (by decide)
def Ck(t:aA)(c:Int):Prop:=Cp 112 [t.pv] (bJ (zT c))∧Cp 14 [t.pv] (vI c)
def X4(t:aA)(b:Nat)(c:Int):Prop:=fE.ai t b (bJ (zT c))∧bP.ai t b (vI c)
theorem I3{t:aA}{T:Tw}(ht:Tok T)(K:tg T){b:Nat}{v:List ag}(hb:b≤1)(Ez:b<t.roots.length)(hv:t.roots[b]? = some v)(hl:v.length≤6)(HD:∀x∈v,Jf.Lo x)(hr:Rt t T b)(hq:v.length=2^b→wH b v=0→Hq 10 (toQ T (dk v))) :
  (∃c,c≠0∧X4 t b c)∨(v=(dk v).map aI∧v.length=2^b∧0≤R.fQ (lv K (dk v))∧∀c,X4 t (b+1) c→X4 t b c):=by
 have p:1*2^b=2^b:=ahr _;have p5:2^b≤2^1:=ag6 (by omega) hb;by_cases hlen:v.length=2^b
 ·have hf:∀x∈v,kS x:=fun x hx=>Dj (HD x hx)
  have n1:=tc.oO ⟨t.roots.take b⟩ hl hf;have n2:=NL.oO b hl hf;have bH:(t.roots.take b).length=b:=by rw[agh];omega
  rw[show (⟨t.roots.take b⟩:aA).roots.length=b from bH] at n1;by_cases he:wH b v=0
  ·obtain⟨e1,e2⟩:=zj hl he;rw[he] at n1 n2;have dI:Rt ⟨t.roots.take b⟩ T b:=⟨hr.1,fun j hj=>by
    show(t.roots.take b)[j]? = _;rw[agG,ag9 hj];exact hr.2 j hj⟩
   have hQ:=hq hlen he;have hs:4^b*(10+64)≤1073741824:=ag3 (afU _ (ag6 (by omega) hb)) (by decide);have s1:=tc.Df ht K dI b (afY _) (dk v) 10 e2 hQ (by omega) hs;have s2:=NL.Df ht K hr b (afY _) (dk v) 10 e2 hQ (by omega) hs;unfold pq at s1 s2;rw[←e1] at s1 s2;by_cases hneg:R.fQ (lv K (dk v))<0
   ·left;refine⟨3,by decide,?_,?_⟩
    ·exact fE.c9 t b v _ Ez hv (by omega) (by omega) (by omega) (by omega) n1 s1 hneg
    ·exact bP.kA t b v _ _ Ez hv (by omega) (by omega) (by omega) n2 rfl s2 hneg
   ·right;refine⟨e1,hlen,by omega,fun c hc=>⟨?_,?_⟩⟩
    ·exact fE.kA t b v _ Ez hv (by omega) (by omega) (by omega) (by omega) n1 s1 (by omega) (by omega) hc.1
    ·exact bP.uA t b v _ _ Ez hv (by omega) (by omega) (by omega) n2 rfl s2 (by omega) (by omega) hc.2
  ·left;refine⟨wH b v,he,?_,?_⟩
   ·rw[xK he] at n1 ⊢;exact fE.uA t b v _ Ez hv (by omega) (by omega) (by omega) (by omega) n1
   ·exact bP.c9 t b v _ Ez hv (by omega) (by omega) (by omega) n2 he
 ·left;refine⟨10,by decide,?_,?_⟩
  ·exact fE.l10 t b v Ez hv (by omega) (by omega) (by omega)
  ·exact bP.l10 t b v Ez hv (by omega) (by omega) (by omega)
theorem GU{t:aA}{b:Nat}(h:t.roots.length≤b):X4 t b 0:=⟨fE.Dp t b h,bP.Dp t b h⟩
theorem E7{t:aA}(h:t.roots.length≤2){c:Int}(hc:X4 t 0 c):Ck t c:=⟨fE.e1 t (by omega) hc.1,bP.e1 t (by omega) hc.2⟩
def T0:Tw:=⟨0,0,0⟩
theorem TI:Nk T0 1 1:=⟨by decide,by decide,by decide,by decide,⟨0,by decide +kernel,by decide⟩,⟨0,by decide +kernel,by decide⟩,⟨0,by decide +kernel,by decide⟩⟩
noncomputable def K0:tg T0:=⟨0,0,by grind,by grind,by show(0:R)*0=R.ofQ 0;rw[R.eg];grind,by show(0:R)*0=R.ofQ 0+R.ofQ 0*0;rw[R.eg];grind⟩
theorem GV{T:Tw}{v:List ag}(h:v.length≤4)(HD:∀x∈v,Jf.Lo x):∃D:Nat,D≠0∧D≤10^12∧Dn D (10^12) (toQ T (dk v)):=by
 have key:∀i,∃(n:Int) (D:Nat),D≠0∧D≤1000∧coef (dk v) i*(((D:Nat):Int):Rat)=(n:Rat)∧n.natAbs≤1000:=fun i=>by
  unfold coef dk;rw[afT];cases hx:v[i]? with
  |none=>exact⟨0,1,by omega,by omega,by show(0:Rat)*_=_;rw[agJ];rfl,by decide⟩
  |some x=>exact A4 (HD x (ag4 hx))
 obtain⟨n0,D0,a0,b0,c0,d0⟩:=key 0;obtain⟨n1,D1,a1,b1,c1,d1⟩:=key 1;obtain⟨n2,D2,a2,b2,c2,d2⟩:=key 2;obtain⟨n3,D3,a3,b3,c3,d3⟩:=key 3;have bd:∀{p q r:Nat} {n:Int},n.natAbs≤1000→p≤1000→q≤1000→r≤1000→(n*(p:Int)*(q:Int)*(r:Int)).natAbs≤10^12:=fun {p q r n} hn hp hq hr=>by rw[agW,agW,agW];exact ag3 (agx (agx (agx hn (show (p:Int).natAbs≤1000 by omega)) (show (q:Int).natAbs≤1000 by omega)) (show (r:Int).natAbs≤1000 by omega)) (by decide)
 refine⟨D0*D1*D2*D3,ahB (ahB (ahB a0 a1) a2) a3,ag3 (agx (agx (agx b0 b1) b2) b3) (by decide),n0*D1*D2*D3,n1*D0*D2*D3,n2*D0*D1*D3,n3*D0*D1*D2,?_,?_,?_,?_,bd d0 b1 b2 b3,bd d1 b0 b2 b3,bd d2 b0 b1 b3,bd d3 b0 b1 b2⟩
 ·simp only[Int.natCast_mul,Rat.intCast_mul,←c0];show coef (dk v) 0*_=_;grind
 ·simp only[Int.natCast_mul,Rat.intCast_mul,←c1];show coef (dk v) 1*_=_;grind
 ·simp only[Int.natCast_mul,Rat.intCast_mul,←c2];show coef (dk v) 2*_=_;grind
 ·simp only[Int.natCast_mul,Rat.intCast_mul,←c3];show coef (dk v) 3*_=_;grind
theorem Dn.hq{T:Tw}{D:Nat}(h0:D≠0)(h1:D≤10^12){a:Q4 T}(h:Dn D (10^12) a):Hq 2 a:=by
 obtain⟨i,j,k,l,sQ,h2,h3,h4,h5,h6,h7,h8⟩:=h;have w:∀{n:Int},n.natAbs≤10^12→wl n≤2:=fun hn=>mU (ahg hn (by decide))
 exact⟨(D:Int),i,j,k,l,by omega,w (by omega),sQ,h2,h3,h4,w h5,w h6,w h7,w h8⟩
structure eh (t:aA) (T:Tw):Prop where
 rt:Rt t T t.roots.length
 sm:∃A B,Nk T A B
 rts:Nonempty (tg T)
 ck:Ck t 0
theorem Ql{t:aA}(hl:t.roots.length≤2)(hv:∀d∈t.roots,d.length≤6∧∀x∈d,Jf.Lo x):(∃c,c≠0∧Ck t c)∨∃T,eh t T:=by
 have q10:∀(T:Tw) (b:Nat) (v:List ag),b≤1→(∀x∈v,Jf.Lo x)→v.length=2^b→Hq 10 (toQ T (dk v)):=fun T b v hb HD hlen=>by have p5:2^b≤2^1:=ag6 (by omega) hb;obtain⟨D,d0,d1,d2⟩:=GV (T:=T) (v:=v) (by omega) HD;exact(Dn.hq d0 d1 d2).mono (by omega)
 by_cases h0:t.roots.length=0
 ·exact .inr ⟨T0,⟨by rw[h0];omega,fun j hj=>by omega⟩,⟨1,1,TI⟩,⟨K0⟩,E7 hl (GU (by omega))⟩
 obtain⟨v,RJ⟩:∃v,t.roots[0]? = some v:=⟨_,afO (by omega)⟩;obtain⟨l0,lo0⟩:=hv v (ag4 RJ);rcases I3 TI.tok K0 (b:=0) (by omega) (by omega) RJ l0 lo0 ⟨by omega,fun j hj=>by omega⟩ (fun a b=>q10 T0 0 v (by omega) lo0 a) with ⟨c,c0,c1⟩|⟨e1,e2,e3,e4⟩
 ·exact .inl ⟨c,c0,E7 hl c1⟩
 obtain⟨d,hd⟩:=kQ (show (dk v).length=1 by unfold dk;rw[afW];exact e2);obtain⟨x,hx⟩:∃x,v=[x]:=by
  match v,e2 with
  |[x],_=>exact⟨x,rfl⟩
 have hxd:x.val=d:=by rw[hx] at hd;simpa[dk] using hd
 obtain⟨n,A,A0,A1,A2,A3⟩:=A4 (lo0 x (by rw[hx];simp));rw[hxd] at A2;have dnn:(0:R)≤R.ofQ d:=by
  rw[hd] at e3;have e:lv K0 [d]=R.ofQ d:=Q4.E4 K0 d;rw[e] at e3;rcases R.cV (R.ofQ d) with h|h|h
  ·exact h.1.1
  ·rw[h.1];grind
  ·rw[h.2] at e3;exact absurd e3 (by decide)
 obtain⟨s,s0,s1⟩:=R.P7 (R.ofQ d) dnn;by_cases h1:t.roots.length=1
 ·refine .inr ⟨⟨d,0,0⟩,⟨by omega,fun j hj => ?_⟩,⟨A,1,⟨A0,by decide,A1,by decide,⟨n,A2,A3⟩,⟨0,by show(0:Rat)*_=_;rw[agJ];rfl,by decide⟩,⟨0,by show(0:Rat)*_=_;rw[agJ];rfl,by decide⟩⟩⟩,⟨⟨s,0,s0,by grind,s1,by show(0:R)*0=R.ofQ 0+R.ofQ 0*s;rw[R.eg];grind⟩⟩,E7 hl (e4 0 (GU (by omega)))⟩;have:j=0:=by omega
  subst this;rw[RJ,e1,hd];rfl
 obtain⟨w,KY⟩:∃v,t.roots[1]? = some v:=⟨_,afO (by omega)⟩;obtain⟨l1,Y2⟩:=hv w (ag4 KY);have abc:Nk ⟨d,0,0⟩ A 1:=⟨A0,by decide,A1,by decide,⟨n,A2,A3⟩,⟨0,by show(0:Rat)*_=_;rw[agJ];rfl,by decide⟩,⟨0,by show(0:Rat)*_=_;rw[agJ];rfl,by decide⟩⟩;have rt1:Rt t ⟨d,0,0⟩ 1:=⟨by omega,fun j hj=>by
  have:j=0:=by omega
  subst this;rw[RJ,e1,hd];rfl⟩
 let K1:tg ⟨d,0,0⟩:=⟨s,0,s0,by grind,s1,by show(0:R)*0=R.ofQ 0+R.ofQ 0*s;rw[R.eg];grind⟩;rcases I3 abc.tok K1 (b:=1) (by omega) (by omega) KY l1 Y2 rt1 (fun a b=>q10 _ 1 w (by omega) Y2 a) with ⟨c,c0,c1⟩|⟨g1,g2,g3,g4⟩
 ·exact .inl ⟨c,c0,E7 hl (e4 c c1)⟩
 obtain⟨e,f,Y3⟩:=Qc (show (dk w).length=2 by unfold dk;rw[afW];exact g2);obtain⟨y,z,hyz⟩:∃y z,w=[y,z]:=by
  match w,g2 with
  |[y,z],_=>exact⟨y,z,rfl⟩
 have hy:y.val=e∧z.val=f:=by rw[hyz] at Y3;simpa[dk] using Y3
 obtain⟨n1,B1,B0,B2,B3,B4⟩:=A4 (Y2 y (by rw[hyz];simp));obtain⟨n2,C1,C0,C2,C3,C4⟩:=A4 (Y2 z (by rw[hyz];simp));rw[hy.1] at B3;rw[hy.2] at C3;have unn:(0:R)≤R.ofQ e+R.ofQ f*s:=by
  rw[Y3] at g3;have e':lv K1 [e,f]=R.ofQ e+R.ofQ f*s:=by show R.ofQ e+R.ofQ f*s+(R.ofQ 0+R.ofQ 0*s)*0=_;grind
  rw[e'] at g3;rcases R.cV (R.ofQ e+R.ofQ f*s) with h|h|h
  ·exact h.1.1
  ·rw[h.1];grind
  ·rw[h.2] at g3;exact absurd g3 (by decide)
 obtain⟨u,u0,u1⟩:=R.P7 _ unn;have m3:∀{p:Nat} {m:Int},m.natAbs≤1000→p≤1000→(m*(p:Int)).natAbs≤10^6:=fun {p m} hn hp=>by rw[agW];exact ag3 (agx hn (show (p:Int).natAbs≤1000 by omega)) (by decide)
 refine .inr ⟨⟨d,e,f⟩,⟨hl,fun j hj => ?_⟩,⟨A,B1*C1,⟨A0,ahB B0 C0,A1,ag3 (agx B2 C2) (by decide),⟨n,A2,A3⟩,⟨n1*C1,?_,m3 B4 C2⟩,⟨n2*B1,?_,m3 C4 B2⟩⟩⟩,⟨⟨s,u,s0,u0,s1,u1⟩⟩,E7 hl (e4 0 (g4 0 (GU (by omega))))⟩
 ·have:j=0∨j=1:=by omega
  rcases this with rfl|rfl
  ·rw[RJ,e1,hd];rfl
  ·rw[KY,g1,Y3];rfl
 ·show e*_=_;simp only[Int.natCast_mul,Rat.intCast_mul,←B3];grind
 ·show f*_=_;simp only[Int.natCast_mul,Rat.intCast_mul,←C3];grind
theorem Ss{L:Nat}(hL:L≤2){q:List Rat}(h:Lk L q):wH L (q.map aI)=0:=by
 unfold wH;have hv:(q.map aI).all ag.valid=true:=agy.2 fun x hx=>by obtain⟨y,_,rfl⟩:=agI.1 hx;exact rp y
 rw[hv,bM,ag9 rfl];refine ag7 fun e => ?_
 rcases h with rfl|⟨j,j1,j2⟩
 ·exact e.1 rfl
 ·have:j=0∨j=1∨j=2:=by omega
  rw[j2] at e;rcases this with rfl|rfl|rfl
  ·have:GS (2^0)=0:=rfl;omega
  ·have:GS (2^1)=1:=rfl;omega
  ·have:GS (2^2)=2:=rfl;omega
theorem Qm{x:Rat}(h:ht x≤68719476736):kS (aI x):=⟨by have:=(bK h).1;omega,by have:=(bK h).2;omega⟩
namespace eh
variable {t:aA} {T:Tw}
theorem tok(G:eh t T):Tok T:=by obtain⟨A,B,h⟩:=G.sm;exact h.tok
theorem GK(G:eh t T):t.roots.length≤2:=G.rt.1
theorem x8(G:eh t T):Cp 112 [t.pv] .ay:=G.ck.1
theorem num(G:eh t T){q:List Rat}(hq:Lk t.roots.length q)(hf:Fl 68719476736 q):Cp 113 [t.pv,pq q] .ay∧Cp 15 [vI (t.roots.length:Int),pq q] (vI 0):=by
 have hl:=G.GK;have l4:=hq.len hl;have q8:∀x∈q.map aI,kS x:=fun x hx=>by obtain⟨y,hy,rfl⟩:=agI.1 hx;exact Qm (hf y hy)
 have n1:=tc.oO t (a:=q.map aI) (by rw[bM];omega) q8;have n2:=NL.oO t.roots.length (a:=q.map aI) (by rw[bM];omega) q8;rw[Ss hl hq] at n1 n2;exact⟨n1,n2⟩
theorem Su(G:eh t T){p:List Rat}(lp:Lk t.roots.length p)(fp:Fl 68719476736 p):Cp 58 [t.pv,dp (db ag.cells) [p.map aI]] .ay∧Cp 83 [t.pv,dp (db ag.cells) [p.map aI]] (vI 0):=by obtain⟨a1,a2⟩:=G.num lp fp;refine⟨gJ.e0 t _ G.x8 (gJ.l10 _ 0 t (p.map aI) (by simp) rfl a1 (by omega) (gJ.kA _ 1 t (by simp))),?_⟩;exact cK.e1 t _ _ G.ck.2 rfl (cK.c9 _ 0 t (p.map aI) _ (by simp) rfl a2 rfl (by omega) (cK.kA _ 1 t (by simp)))
theorem Gt(G:eh t T){p q:List Rat}(lp:Lk t.roots.length p)(fp:Fl 68719476736 p)(lq:Lk t.roots.length q)(fq:Fl 68719476736 q):Cp 58 [t.pv,dp (db ag.cells) [p.map aI,q.map aI]] .ay∧Cp 83 [t.pv,dp (db ag.cells) [p.map aI,q.map aI]] (vI 0):=by obtain⟨a1,a2⟩:=G.num lp fp;obtain⟨b1,b2⟩:=G.num lq fq;refine⟨gJ.e0 t _ G.x8 (gJ.l10 _ 0 t (p.map aI) (by simp) rfl a1 (by omega) (gJ.l10 _ 1 t (q.map aI) (by simp) rfl b1 (by omega) (gJ.kA _ 2 t (by simp)))),?_⟩;exact cK.e1 t _ _ G.ck.2 rfl (cK.c9 _ 0 t (p.map aI) _ (by simp) rfl a2 rfl (by omega) (cK.c9 _ 1 t (q.map aI) _ (by simp) rfl b2 rfl (by omega) (cK.kA _ 2 t (by simp))))
variable {a b:List Rat} {h h':Nat}
theorem Mm(G:eh t T)(la:Lk t.roots.length a)(ha:Hq h (toQ T a))(h1:1≤h)(h2:h≤68719476736):Fl 68719476736 a:=bV (ha.fl h1 (la.len G.GK)) h2
theorem Sv(G:eh t T)(la:Lk t.roots.length a)(lb:Lk t.roots.length b)(ha:Hq h (toQ T a))(hb:Hq h' (toQ T b))(h1:1≤h)(sQ:1≤h')(hs:h+h'+200≤1073741824) :
  Cp 19 [t.pv,pq a,pq b] (.aF [pq (gX (toQ T a*toQ T b)),.ay]):=by
 have hl:=G.GK;obtain⟨c1,_⟩:=G.Gt la (G.Mm la ha h1 (by omega)) lb (G.Mm lb hb sQ (by omega));obtain⟨r,r1,r2,r3⟩:=tc.uk G.tok G.rt _ (afY _) a b h h' la lb ha hb h1 sQ (by omega);have rq:Hq (h+h'+8) (toQ T r):=by rw[r3];exact Hq.mul G.tok ha hb
 have x1:=tc.nE (T:=T) hl r2 rq (by omega) (by omega);rw[r3] at x1;exact Eu.e0 t _ _ _ _ c1 r1 x1
theorem X5(G:eh t T)(la:Lk t.roots.length a)(lb:Lk t.roots.length b)(ha:Hq h (toQ T a))(hb:Hq h' (toQ T b))(h1:1≤h)(sQ:1≤h')(hs:h+h'+200≤1073741824) :
  Cp 20 [t.pv,pq a,pq b] (.aF [pq (gX (toQ T a+toQ T b)),.ay]):=by
 have hl:=G.GK;have l1:=la.len hl;have l2:=lb.len hl;have fa:=G.Mm la ha h1 (by omega);have fb:=G.Mm lb hb sQ (by omega);obtain⟨c1,_⟩:=G.Gt la fa lb fb;have p1:=tc.plus a b (by omega) (by omega) fa fb;have rq:Hq (h+h'+1) (toQ T (j8 a b)):=by rw[mN];exact ha.add hb
 have x1:=tc.nE (T:=T) hl (oN la lb) rq (by omega) (by omega);rw[mN] at x1;exact Ew.e0 t _ _ _ _ c1 p1 x1
theorem abe(G:eh t T)(la:Lk t.roots.length a)(ha:Hq h (toQ T a))(h1:1≤h)(hs:h+200≤1073741824) :
  Cp 79 [t.pv,pq a] (.aF [pq (gX (-toQ T a)),.ay]):=by
 have hl:=G.GK;have l1:=la.len hl;have fa:=G.Mm la ha h1 (by omega);obtain⟨c1,_⟩:=G.Su la fa;have p1:=tc.minus a (by omega) fa;have rq:Hq h (toQ T (a.map (- ·))):=by rw[vC];exact ha.neg
 have x1:=tc.nE (T:=T) hl (Db la) rq (by omega) (by omega);rw[vC] at x1;exact Et.e0 t _ _ _ c1 p1 x1
theorem abf(G:eh t T)(la:Lk t.roots.length a)(lb:Lk t.roots.length b)(ha:Hq h (toQ T a))(hb:Hq h' (toQ T b))(h1:1≤h)(sQ:1≤h')(hs:h+h'+200≤1073741824) :
  Cp 147 [t.pv,pq a,pq b] (.aF [pq (gX (toQ T a-toQ T b)),.ay]):=by
 have hl:=G.GK;have l1:=la.len hl;have l2:=lb.len hl;have fa:=G.Mm la ha h1 (by omega);have fb:=G.Mm lb hb sQ (by omega);obtain⟨c1,_⟩:=G.Gt la fa lb fb;have m1:=tc.minus b (by omega) fb;have lm:=Db lb;have mq:Hq h' (toQ T (b.map (- ·))):=by rw[vC];exact hb.neg
 have fm:=G.Mm lm mq sQ (by omega);have l3:=lm.len hl;have p1:=tc.plus a _ (by omega) (by omega) fa fm;have lp:=oN la lm;have rq:Hq (h+h'+1) (toQ T (j8 a (b.map (- ·)))):=by rw[mN];exact ha.add mq
 have e:toQ T a + -toQ T b=toQ T a-toQ T b:=by grind
 have x1:=tc.nE (T:=T) hl lp rq (by omega) (by omega);rw[mN,vC,e] at x1;exact Ev.e0 t _ _ _ _ _ c1 m1 p1 x1
theorem Sw(K:tg T)(a b:List Rat):lv K (j8 a (b.map (- ·)))=lv K a-lv K b:=by unfold lv;rw[mN,vC,Q4.E3,Q4.TC];grind
theorem VU(G:eh t T)(K:tg T)(la:Lk t.roots.length a)(lb:Lk t.roots.length b)(ha:Hq h (toQ T a))(hb:Hq h' (toQ T b))(h1:1≤h)(sQ:1≤h')(hs:h+h'+200≤67108864) :
  Cp 24 [t.pv,pq a,pq b] (.aF [vI (R.fQ (lv K a-lv K b)),.ay]):=by
 have hl:=G.GK;have l1:=la.len hl;have l2:=lb.len hl;have fa:=G.Mm la ha h1 (by omega);have fb:=G.Mm lb hb sQ (by omega);obtain⟨c1,_⟩:=G.Gt la fa lb fb;have m1:=tc.minus b (by omega) fb;have lm:=Db lb;have mq:Hq h' (toQ T (b.map (- ·))):=by rw[vC];exact hb.neg
 have fm:=G.Mm lm mq sQ (by omega);have l3:=lm.len hl;have p1:=tc.plus a _ (by omega) (by omega) fa fm;have lp:=oN la lm;have rq:Hq (h+h'+1) (toQ T (j8 a (b.map (- ·)))):=by rw[mN];exact ha.add mq
 have Vq:4^t.roots.length*(h+h'+1+64)≤1073741824:=ag3 (agx (ag6 (by omega) hl) (show h+h'+1+64≤67108864 by omega)) (by decide);have s1:=tc.Df G.tok K G.rt _ (afY _) _ _ lp rq (by omega) Vq;rw[Sw] at s1;exact Ex.e0 t _ _ _ _ _ c1 m1 p1 s1
theorem abg(G:eh t T){v:Q4 T}(hv:Lv 0 v)(ha:Hq h v)(h1:1≤h)(hs:h+200≤1073741824) :
  Cp 81 [t.pv,pq (gX v)] (.aF [(aI v.x).pv,vB true]):=by
 have hl:=G.GK;have l0:=mV hv;have l1:=l0.mono (ago t.roots.length);have rq:Hq h (toQ T (gX v)):=by rw[dA];exact ha
 obtain⟨c1,_⟩:=G.Su l1 (G.Mm l1 rq h1 (by omega));have x1:=tc.nE (T:=T) hl l1 rq h1 (by omega);rw[dA] at x1;have vd:=zP.e0 t _ c1;have ex:v.x=coef (gX v) 0:=by
  conv=>lhs;rw[←dA v]
  rfl
 rcases l0.zero with e|⟨x,e⟩
 ·rw[e] at x1 ex vd ⊢;rw[ex,show aI (coef [] 0)=⟨false,[],[]⟩ from nW];exact yH.e1 t _ true [] vd rfl x1 rfl
 ·rw[e] at x1 ex vd ⊢;rw[ex];exact yH.e2 t _ true [aI x] (aI x) vd rfl x1 (by simp) (by simp) (by simp)
theorem X6(G:eh t T)(K:tg T)(la:Lk t.roots.length a)(ha:Hq h (toQ T a))(h1:1≤h)(hs:h+200≤67108864):Cp 22 [t.pv,pq a] (.aF [vI (R.fQ (lv K a)),.ay]):=by have hl:=G.GK;have fa:=G.Mm la ha h1 (by omega);obtain⟨c1,c2⟩:=G.Su la fa;have Vq:4^t.roots.length*(h+64)≤1073741824:=ag3 (agx (ag6 (by omega) hl) (show h+64≤67108864 by omega)) (by decide);exact Ci.e0 t _ _ c1 (tc.Df G.tok K G.rt _ (afY _) _ _ la ha h1 Vq)
theorem X7(G:eh t T)(la:Lk t.roots.length a)(ha:Hq h (toQ T a))(h1:1≤h)(hs:h≤1073741824):Cp 32 [t.pv,pq a] (.aF [pq (wideL a (2^t.roots.length)),.ay]):=by have hl:=G.GK;have l1:=la.len hl;have fa:=G.Mm la ha h1 (by omega);obtain⟨c1,c2⟩:=G.Su la fa;have cp:=tc.copied (a.map aI) (by rw[bM];omega) (kT (bV (ha.fl h1 l1) hs));have p4:2^t.roots.length≤2^2:=ag6 (by omega) hl;have w:=tc.wide a (2^t.roots.length) (by omega);exact Cg.e0 t _ _ _ c1 cp (by omega) (by omega) (by rw[ahr];exact w)
end eh
theorem Y4(T:Tw){x:Rat}{h:Nat}(hx:ht x≤h)(hs:h≤1073741824):Cp 21 [(aI x).pv] (pq (gX (Q4.rL x:Q4 T))):=by have h1:1≤h:=ag3 (F9 x) hx;have e:toQ T [x]=Q4.rL x:=rfl;have x1:=tc.nE (T:=T) (show 0≤2 by omega) (show Lk 0 [x] from .inr ⟨0,afY _,rfl⟩) (h:=h) (by rw[e];exact Hq.rL hx) h1 hs;rw[e] at x1;exact H4.e0 (aI x) (aI x) _ (QF.DP x (by omega)) x1
theorem Qn{t:aA}(h:5<t.roots.length):Ck t 4:=⟨fE.e0 t h,bP.e0 t h⟩
end Go.Proofs.YtcpnocgollpbhaaGreatDoor.Sym
namespace Go.Proofs.YtcpnocgollpbhaaGreatDoor.Sym
open Go Path cF
set_option linter.unusedVariables false
def tb{T:Tw}(M:Nat)(F:Nat→Q4 T):List (List ag):=(List.range M).map (fun m=>(gX (F m)).map aI)
theorem Qo{T:Tw}(M:Nat)(F:Nat→Q4 T):(tb M F).length=M:=by unfold tb;rw[afW,ahn]
theorem VV{T:Tw}{M m:Nat}(F:Nat→Q4 T)(h:m<M):(tb M F)[m]? = some ((gX (F m)).map aI):=by unfold tb;rw[afT,ahF h];rfl
theorem VW{T:Tw}(M:Nat)(F:Nat→Q4 T)(t:Nat)(v:Q4 T):(tb M F).set t ((gX v).map aI)=tb M (fun m=>if m=t then v else F m):=Sn (fun a=>(gX a).map aI) F M t v
theorem Sx{T:Tw}(M:Nat):List.replicate M ([]:List ag)=tb M (fun _=>(0:Q4 T)):=by
 unfold tb;simp only[De,List.map_nil];apply aiM;intro i;rw[ahk,afT];by_cases h:i<M
 ·rw[ag9 h,ahF h];rfl
 ·rw[ag7 h,agC (by rw[ahn];omega)];rfl
def Dr{T:Tw}(C:List (Q4 T)):List (List ag):=C.map (fun a=>(gX a).map aI)
theorem Sy{T:Tw}(k:Nat)(C:List (Q4 T)):tb (2*C.length-1) (I1 (proQ k C) C.length C.length)=Dr (iN k C):=by unfold tb Dr iN;rw[aia];rfl
theorem Qp{T:Tw}(p:Nat→Nat→Q4 T)(i:Nat)(b:Nat→Q4 T)(l:Nat):(fun m=>if m=i+l then wF p i b l (i+l)+p i l else wF p i b l m)=wF p i b (l+1):=by
 funext m;rw[wF];by_cases h:m=i+l
 ·rw[ag9 h,ag9 h,h]
 ·rw[ag7 h,ag7 h]
theorem GW{T:Tw}{B X:Nat}{p:Nat→Nat→Q4 T}(hp:∀i j,Hq X (p i j))(i:Nat){b:Nat→Q4 T}(hb:∀m,Hq B (b m)):∀l m,Hq (B+l*(X+1)) (wF p i b l m)
 |0,m=>by rw[aiV];exact hb m
 |l+1,m=>by
  have e:B+(l+1)*(X+1)=B+l*(X+1)+X+1:=by rw[ahS];omega
  rw[wF,e];split
  ·exact(GW hp i hb l m).add (hp _ _)
  ·exact(GW hp i hb l m).mono (by omega)
theorem GX{T:Tw}{X:Nat}{p:Nat→Nat→Q4 T}(hp:∀i j,Hq X (p i j))(n:Nat):∀i m,Hq (1+i*(n*(X+1))) (I1 p n i m)
 |0,m=>by rw[aiV];exact Hq.zero (by omega)
 |i+1,m=>by
  have e:1+(i+1)*(n*(X+1))=1+i*(n*(X+1))+n*(X+1):=by rw[ahS];omega
  rw[e];exact GW hp i (fun m=>GX hp n i m) n m
def Qq{T:Tw}(k:Nat)(a:Q4 T):List Rat:=(wideL (gX a) (2^(k+1))).take (2^k)
def Qr{T:Tw}(k:Nat)(a:Q4 T):List Rat:=(wideL (gX a) (2^(k+1))).drop (2^k)
theorem SA(T:Tw){k:Nat}(hk:k≤1){l:List Rat}(h:l.length=2^(k+1)):toQ T (l.take (2^k))=AX k (toQ T l)∧toQ T (l.drop (2^k))=hiQ k (toQ T l):=by
 have:k=0∨k=1:=by omega
 rcases this with rfl|rfl
 ·obtain⟨x,y,rfl⟩:=Qc h;exact⟨rfl,rfl⟩
 ·obtain⟨x,y,z,w,rfl⟩:=Sk h;exact⟨rfl,rfl⟩
theorem SB{T:Tw}{k:Nat}(hk:k≤1){a:Q4 T}(ha:Lv (k+1) a):toQ T (Qq k a)=AX k a∧toQ T (Qr k a)=hiQ k a∧Lk k (Qq k a)∧Lk k (Qr k a):=by have hl:=(mV ha).le;have hw:=cM (gX a) (2^(k+1));obtain⟨h1,h2⟩:=SA T hk hw;rw[KI T hl,dA] at h1 h2;obtain⟨g1,g2,_,_⟩:=oM hw;exact⟨h1,h2,g1,g2⟩
theorem I4{T:Tw}{h k:Nat}{a:Q4 T}(ha:Hq h a):Hq h (AX k a)∧Hq h (hiQ k a):=by
 match k with
 |0=>exact⟨ha.part (by simp[AX]),ha.part (by simp[hiQ])⟩
 |k+1=>exact⟨ha.part (by simp[AX]),ha.part (by simp[hiQ])⟩
def rG{T:Tw}(a:Q4 T):Nat:=if a.z=0∧a.w=0 then (if a.y=0 then 0 else 1) else 2
theorem wI{T:Tw}(a:Q4 T):Lv (rG a) a∧rG a≤2∧(gX a).length≤2^rG a∧(∀c,c<rG a→2^c<(gX a).length)∧max 1 (gX a).length=2^rG a:=by
 unfold rG gX;by_cases h1:a.z=0∧a.w=0
 ·rw[ag9 h1,ag9 h1];by_cases h2:a.y=0
  ·rw[ag9 h2,ag9 h2];refine⟨⟨h2,h1.1,h1.2⟩,by omega,?_,fun c hc=>by omega,?_⟩<;>split<;>simp
  ·rw[ag7 h2,ag7 h2];refine⟨⟨h1.1,h1.2⟩,by omega,by simp,fun c hc => ?_,by simp⟩;have:c=0:=by omega
   subst this;simp
 ·rw[ag7 h1,ag7 h1];refine⟨True.intro,by omega,by simp,fun c hc => ?_,by simp⟩;have:c=0∨c=1:=by omega
  rcases this with rfl|rfl<;>simp
theorem SD{T:Tw}(a:Q4 T):rG (-a)=rG a:=by
 have e:∀x:Rat, -x=0↔x=0:=fun x=>by grind
 unfold rG;simp only[Q4.xY,Q4.vz,Q4.vA,e]
theorem VX{T:Tw}{n:Nat}{a:Q4 T}(h:Lv n a):rG a≤n:=by
 unfold rG
 match n,h with
 |0,h=>rw[ag9 ⟨h.2.1,h.2.2⟩,ag9 h.1];omega
 |1,h=>rw[ag9 ⟨h.1,h.2⟩];split<;>omega
 |n+2,_ =>
  split
  ·split<;>omega
  ·omega
namespace eh
variable {t:aA} {T:Tw}
structure Cf (C:List (Q4 T)) (k H:Nat):Prop where
 n0:C≠[]
 n:C.length≤5
 lv:∀a∈C,Lv (k+1) a
 hq:∀a∈C,Hq H a
 h1:1≤H
 hs:H≤1000000
theorem Cf.get{C:List (Q4 T)}{k H:Nat}(c:Cf C k H){i:Nat}(hi:i<C.length):C[i]? = some (mO C i)∧Lv (k+1) (mO C i)∧Hq H (mO C i):=by
 have e:C[i]? = some C[i]:=afO hi;have e2:mO C i=C[i]:=by unfold mO;rw[e];rfl
 have m:=ag4 e;rw[e2];exact⟨e,c.lv _ m,c.hq _ m⟩
theorem Cf.gq{C:List (Q4 T)}{k H:Nat}(c:Cf C k H)(i:Nat):Hq H (mO C i):=by
 by_cases hi:i<C.length
 ·exact(c.get hi).2.2
 ·unfold mO;rw[agC (by omega)];exact Hq.zero c.h1
theorem Cf.X8{C:List (Q4 T)}{k H:Nat}(c:Cf C k H)(ht:Tok T)(i j:Nat):Hq (4*H+26) (proQ k C i j):=by
 have a:=I4 (k:=k) (c.gq i);have b:=I4 (k:=k) (c.gq j);have h1:=Hq.mul ht a.1 b.1;have h2:=Hq.mul ht (Hq.mul ht a.2 b.2) (ht.root k);have e:proQ k C i j=AX k (mO C i)*AX k (mO C j) + -(hiQ k (mO C i)*hiQ k (mO C j)*toQ T (gx T k)):=by unfold proQ;grind
 rw[e];exact(h1.add h2.neg).mono (by omega)
theorem Cf.next{C:List (Q4 T)}{k H:Nat}(c:Cf C (k+1) H)(ht:Tok T)(hk:k+1≤1)(hn:C.length≤3)(hs:1+C.length*(C.length*(4*H+26+1))≤1000000):Cf (iN (k+1) C) k (1+C.length*(C.length*(4*H+26+1))):=by
 have hl:=ag8.2 c.n0;have fl:=x4 (k+1) C;refine⟨fun e => ?_,by omega,AY hk C,fun a ha => ?_,by omega,hs⟩
 ·rw[e,aih] at fl;omega
 ·obtain⟨m,_,rfl⟩:=agI.1 ha;exact GX (c.X8 ht) _ _ _
theorem Cf.out{C:List (Q4 T)}{k H:Nat}(c:Cf C k H)(ht:Tok T):∀a∈iN k C,Hq (1+C.length*(C.length*(4*H+26+1))) a:=fun a ha=>by obtain⟨m,_,rfl⟩:=agI.1 ha;exact GX (c.X8 ht) _ _ _
def GY(k:Nat)(C:List (Q4 T)):List (List ag):=C.map (fun a=>(Qq k a).map aI)
def GZ(k:Nat)(C:List (Q4 T)):List (List ag):=C.map (fun a=>(Qr k a).map aI)
theorem I5{C:List (Q4 T)}{k H i:Nat}(c:Cf C k H)(hi:i<C.length):(GY k C)[i]? = some ((Qq k (mO C i)).map aI):=by unfold GY;rw[afT,(c.get hi).1];rfl
theorem I6{C:List (Q4 T)}{k H i:Nat}(c:Cf C k H)(hi:i<C.length):(GZ k C)[i]? = some ((Qr k (mO C i)).map aI):=by unfold GZ;rw[afT,(c.get hi).1];rfl
theorem pad(q:List Rat){n:Nat}(h:q.length≤n){m:Nat}(hm:n-q.length=m):q.map aI++List.replicate m (⟨false,[],[]⟩:ag)=(wideL q n).map aI:=by rw[NL.Dh q h,agU,ajt,nW,hm]
theorem Cf.parts(G:eh t T){C:List (Q4 T)}{k H:Nat}(c:Cf C k H)(hk:k<t.roots.length){i:Nat}(hi:i<C.length) :
  toQ T (Qq k (mO C i))=AX k (mO C i)∧toQ T (Qr k (mO C i))=hiQ k (mO C i)∧Lk t.roots.length (Qq k (mO C i))∧Lk t.roots.length (Qr k (mO C i))∧Hq H (toQ T (Qq k (mO C i)))∧Hq H (toQ T (Qr k (mO C i))):=by
 have hl:=G.GK;obtain⟨_,iv,iq⟩:=c.get hi;obtain⟨a1,a2,a3,a4⟩:=SB (k:=k) (by omega) iv;have ia:=I4 (k:=k) iq;exact⟨a1,a2,a3.mono (by omega),a4.mono (by omega),by rw[a1];exact ia.1,by rw[a2];exact ia.2⟩
theorem Cf.abh(G:eh t T){C:List (Q4 T)}{k H:Nat}(c:Cf C k H)(hk:k<t.roots.length){i j:Nat}(hi:i<C.length)(hj:j<C.length) :
  Cp 19 [t.pv,pq (Qq k (mO C i)),pq (Qq k (mO C j))] (.aF [pq (gX (AX k (mO C i)*AX k (mO C j))),.ay]) ∧
  Cp 19 [t.pv,pq (Qr k (mO C i)),pq (Qr k (mO C j))] (.aF [pq (gX (hiQ k (mO C i)*hiQ k (mO C j))),.ay]):=by
 have hs:=c.hs;have h1:=c.h1;obtain⟨p1,p2,p3,p4,p5,p6⟩:=c.parts G hk hi;obtain⟨q1,q2,q3,q4,q5,q6⟩:=c.parts G hk hj;have m1:=G.Sv (a:=Qq k (mO C i)) (b:=Qq k (mO C j)) (h:=H) (h':=H) p3 q3 p5 q5 h1 h1 (by omega);have m2:=G.Sv (a:=Qr k (mO C i)) (b:=Qr k (mO C j)) (h:=H) (h':=H) p4 q4 p6 q6 h1 h1 (by omega);rw[p1,q1] at m1;rw[p2,q2] at m2;exact⟨m1,m2⟩
theorem X9(G:eh t T){a:Q4 T}{b:List Rat}{h h':Nat}(va:Lv t.roots.length a)(lb:Lk t.roots.length b)(ha:Hq h a)(hb:Hq h' (toQ T b))(h1:1≤h)(sQ:1≤h')(hs:h+h'+200≤1073741824) :
  Cp 19 [t.pv,pq (gX a),pq b] (.aF [pq (gX (a*toQ T b)),.ay]):=by
 have m:=G.Sv (a:=gX a) (b:=b) (h:=h) (h':=h') (mV va) lb (by rw[dA];exact ha) hb h1 sQ hs;rwa[dA] at m
theorem Ya(G:eh t T){a b:Q4 T}{h h':Nat}(va:Lv t.roots.length a)(vb:Lv t.roots.length b)(ha:Hq h a)(hb:Hq h' b)(h1:1≤h)(sQ:1≤h')(hs:h+h'+200≤1073741824) :
  Cp 147 [t.pv,pq (gX a),pq (gX b)] (.aF [pq (gX (a-b)),.ay]):=by
 have m:=G.abf (a:=gX a) (b:=gX b) (h:=h) (h':=h') (mV va) (mV vb) (by rw[dA];exact ha) (by rw[dA];exact hb) h1 sQ hs;rwa[dA,dA] at m
theorem Yb(G:eh t T){a b:Q4 T}{h h':Nat}(va:Lv t.roots.length a)(vb:Lv t.roots.length b)(ha:Hq h a)(hb:Hq h' b)(h1:1≤h)(sQ:1≤h')(hs:h+h'+200≤1073741824) :
  Cp 20 [t.pv,pq (gX a),pq (gX b)] (.aF [pq (gX (a+b)),.ay]):=by
 have m:=G.X5 (a:=gX a) (b:=gX b) (h:=h) (h':=h') (mV va) (mV vb) (by rw[dA];exact ha) (by rw[dA];exact hb) h1 sQ hs;rwa[dA,dA] at m
theorem Nn{k n:Nat}{a:Q4 T}(h:Lv k a)(hk:k≤n):Lv n a:=by
 induction n with
 |zero =>
  have:k=0:=by omega
  subst this;exact h
 |succ n ih =>
  by_cases e:k=n+1
  ·subst e;exact h
  ·exact(ih (by omega)).mono
theorem Qs(G:eh t T){C:List (Q4 T)}{k H:Nat}(c:Cf C k H)(hk:k<t.roots.length) :
  Cp 80 [t.pv,dp (db ag.cells) (Dr C),vI ((k:Int)+1)] (.aF [dp (db ag.cells) (Dr (iN k C)),.ay]):=by
 have I9:=G.GK;have hs:=c.hs;have h1:=c.h1;have hn:=c.n;have Wh:=ag8.2 c.n0;have QU:k≤1:=by omega
 have p2:2^(k+1)=2*(1*2^k):=by rw[agb];omega
 have p4:2^k≤2^1:=ag6 (by omega) QU;have p0:0<2^k:=agL _;have ql:(Dr C).length=C.length:=by unfold Dr;rw[afW]
 have wJ:=G.tok;have qH:=G.rt.2 k hk;have Yc:Lk t.roots.length (gx T k):=(Lk.nC (pI T QU)).mono (by omega);generalize hN:C.length=n at *;generalize hM:2*n-1=M;have hX:n*(n*(4*H+26+1))≤5*(5*(4*1000000+27)):=agx hn (agx hn (by omega));have L3:∀i,i<n→∀(base:Nat→Q4 T),(∀m,Lv k (base m))→(∀m,Hq (1+i*(n*(4*H+26+1))) (base m))→∀r,cU.bD (Dr C) ((k:Int)+1) (GY k C) (GZ k C) M (i+1) t (tb M (wF (proQ k C) i base n)) r→∀d l,l+d=n→cU.mT (Dr C) ((k:Int)+1) (GY k C) (GZ k C) M i i l t (tb M (wF (proQ k C) i base l)) r:=by
  intro i hi base bv bq r hr d
  induction d with
  |zero =>
   intro l hl;have:l=n:=by omega
   subst this;exact cU.l36 _ _ _ _ _ _ _ _ t _ (by omega) (by omega) hr
  |succ d ih =>
   intro l hl;have hi':i<C.length:=by omega
   have Mx:l<C.length:=by omega
   obtain⟨m1,m2⟩:=Cf.abh G c hk hi' Mx;have va:=((Mc QU (mO C i)).mul (Mc QU (mO C l)));have vb:=((Md QU (mO C i)).mul (Md QU (mO C l)));have qi:=I4 (k:=k) (c.gq i);have qj:=I4 (k:=k) (c.gq l);have qa:=Hq.mul wJ qi.1 qj.1;have qb:=Hq.mul wJ qi.2 qj.2;have m3:=G.X9 (b:=gx T k) (h:=H+H+8) (h':=1) (Nn vb (by omega)) Yc qb (wJ.root k) (by omega) (by omega) (by omega);have vc:=vb.mul (Me T QU);have qc:=Hq.mul wJ qb (wJ.root k);have m4:=G.Ya (h:=H+H+8) (h':=H+H+8+1+8) (Nn va (by omega)) (Nn vc (by omega)) qa qc (by omega) (by omega) (by omega);have pv:=GP QU C i l;have pqq:=c.X8 wJ i l;have bv':=GQ (p:=proQ k C) (GP QU C) i bv l (i+l);have bq':=GW (p:=proQ k C) (c.X8 wJ) i bq l (i+l);have hle:1+i*(n*(4*H+26+1))+l*(4*H+26+1)≤1+n*(n*(4*H+26+1)):=by
    have e1:i*(n*(4*H+26+1))+n*(4*H+26+1)≤n*(n*(4*H+26+1)):=by have:=afU (n*(4*H+26+1)) (show i+1≤n by omega);rw[ahS] at this;exact this
    have e2:l*(4*H+26+1)≤n*(4*H+26+1):=afU _ (by omega);omega
   have m5:=G.Yb (h:=1+i*(n*(4*H+26+1))+l*(4*H+26+1)) (h':=4*H+26) (Nn bv' (by omega)) (Nn pv (by omega)) bq' pqq (by omega) (by omega) (by omega);refine cU.l30 _ _ _ _ _ _ _ _ t _ _ _ _ _ _ _ k _ _ _ _ _ (by omega) (by unfold GY;rw[afW];omega) (I5 c hi') (by unfold GY;rw[afW];omega) (I5 c Mx) m1 (by unfold GZ;rw[afW];omega) (I6 c hi') (by unfold GZ;rw[afW];omega) (I6 c Mx) m2 (by unfold az;omega) (by omega) qH m3 m4 (by omega) (by omega) (VV _ (by omega)) m5 (by rw[Qo];omega) (by omega) ?_;rw[VW,Qp];exact ih (l+1) (by omega)
 have L2:∀d i,i+d=n→cU.bD (Dr C) ((k:Int)+1) (GY k C) (GZ k C) M i t (tb M (I1 (proQ k C) n i)) (.aF [dp (db ag.cells) (Dr (iN k C)),.ay]):=by
  intro d
  induction d with
  |zero =>
   intro i hi;have:i=n:=by omega
   subst this;have e:=Sy k C;rw[hN,hM] at e;rw[e];exact cU.FM _ _ _ _ _ _ t _ (by omega) (by rw[←e,Qo])
  |succ d ih =>intro i hi;exact cU.BZ _ _ _ _ _ _ t _ (by omega) (L3 i (by omega) _ (fun m=>KF (GP QU C) n i m) (fun m=>GX (c.X8 wJ) n i m) _ (ih (i+1) (by omega)) n 0 (by omega))
 have L1:∀d g,g+d=n→cU.ai (Dr C) ((k:Int)+1) k (GY k (C.take g)) (GZ k (C.take g)) g t (.aF [dp (db ag.cells) (Dr (iN k C)),.ay]):=by
  intro d
  induction d with
  |zero =>
   intro g hg;rw[show C.take g=C from agd (by omega)];have L20:=L2 n 0 (by omega);have e0:tb M (I1 (proQ k C) n 0)=List.replicate M ([]:List ag):=by rw[Sx (T:=T)];rfl
   rw[e0] at L20;exact cU.c9 _ _ _ _ _ g t M (by omega) (by omega) (by unfold az;omega) (by omega) (by omega) L20
  |succ d ih =>
   intro g hg;have hg':g<C.length:=by omega
   obtain⟨e1,e2,e3⟩:=c.get hg';have hle:=(mV e2).le;have hv:(Dr C)[g]? = some ((gX (mO C g)).map aI):=by unfold Dr;rw[afT,e1];rfl
   have hp:=pad (gX (mO C g)) hle rfl;have hlen:((gX (mO C g)).map aI).length=(gX (mO C g)).length:=bM _;have wl':=cM (gX (mO C g)) (2^(k+1));have Fe:((gX (mO C g)).map aI++List.replicate (2^(k+1)-(gX (mO C g)).length) (⟨false,[],[]⟩:ag)).length=2^(k+1):=by rw[hp,bM,wl']
   have ih:=ih (g+1) (by omega);rw[agH,e1] at ih;unfold GY GZ at ih ⊢;rw[agU,agU] at ih;refine cU.l10 _ _ k _ _ g t _ (2^(k+1)-(gX (mO C g)).length) (by omega) hv (by rw[ahZ];omega) (by omega) (by unfold az;omega) (by omega) (by omega) (by omega) (by rw[agB,afW,agh,ahj];omega) (by omega) (by rw[agB,afW,agh,ahj];omega) (by omega) ?_;rw[hp,ahr,dB,dC];exact ih
 exact cU.e0 t _ _ k (by unfold az;omega) (by omega) (by omega) (by omega) (L1 n 0 (by omega))
end eh
end Go.Proofs.YtcpnocgollpbhaaGreatDoor.Sym
