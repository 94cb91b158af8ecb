/- Lemmas for the statements of this seat. -/
import Derived.Test.YtllmkadmohkbfaaGreatDoorH5
import Derived.Test.YtllmkadmohkbfaaGreatDoorH4
import Derived.Test.YtllmkadmohkbfaaGreatDoorQ4
import Derived.Test.YtllmkadmohkbfaaGreatDoorH3
import Derived.Test.YtllmkadmohkbfaaGreatDoorQ3
import Derived.Test.YtllmkadmohkbfaaGreatDoorQ2
namespace Go.Proofs.YtllmkadmohkbfaaGreatDoor.Sym
open Go Path cP
set_option linter.unusedVariables false
def fB(h L:Nat):Nat:=L*(h+(L+1)*(xB h (h+1) (L+1)+1)+xB h (h+1) (L+1))+1
def sB(h L:Nat):Nat:=xB (fB h L) (fB h L+1) (L+1)
structure dG (h L:Nat) (p:List Rat):Prop where
 zp:aK p=false
 ne:p≠[]
 len:p.length≤L
 ch:Ch h p
 h1:1≤h
 hL:L≤10
 sz:sB h L≤1073741824
theorem sw{a b:Nat}(ha:1≤a)(dF:a≤b)(j:Nat):1≤xB a b j:=Nat.le_trans ha (cz a b dF (i:=0) (Nat.zero_le _))
section
variable {h L:Nat} {p:List Rat}
theorem dG.pos(f:dG h L p):1≤L:=by have:=List.length_pos_iff.2 f.ne;have:=f.len;omega
theorem dG.py(f:dG h L p):Sym.py (p.map aJ)=0:=fj f.zp (by have:=f.len;have:=f.hL;omega)
theorem dG.fb(f:dG h L p):xB h (h+1) (L+1)≤fB h L∧h+(L+1)*(xB h (h+1) (L+1)+1)+xB h (h+1) (L+1)≤fB h L∧1≤fB h L∧fB h L≤1073741824∧h≤fB h L:=by
 have hL:=f.pos
 have h1:1*(h+(L+1)*(xB h (h+1) (L+1)+1)+xB h (h+1) (L+1))≤L*(h+(L+1)*(xB h (h+1) (L+1)+1)+xB h (h+1) (L+1)):=Nat.mul_le_mul_right _ hL
 have h2:=cz (fB h L) (fB h L+1) (Nat.le_succ _) (i:=0) (j:=L+1) (Nat.zero_le _)
 have h3:=f.sz
 have h4:xB (fB h L) (fB h L+1) 0=fB h L:=rfl
 have h5:sB h L=xB (fB h L) (fB h L+1) (L+1):=rfl
 have h6:fB h L=L*(h+(L+1)*(xB h (h+1) (L+1)+1)+xB h (h+1) (L+1))+1:=rfl
 refine⟨?_,?_,?_,?_,?_⟩<;>omega
theorem dG.SX(f:dG h L p):v8 h (h+1) L 0 1 p (ak p):=⟨f.ch,f.ch.derive (by have:=f.len;have:=f.hL;omega),by omega,jQ f.ne,by have:=f.len;omega,f.zp,bj p⟩
theorem dG.x2(f:dG h L p):4*xB h (h+1) (L+2)+10≤68719476736:=by
 obtain⟨h1,h2,h3,h4,h5⟩:=f.fb
 have e:xB h (h+1) (L+2)=xB h (h+1) L+2*(xB h (h+1) (L+1)+1):=rfl
 have:=EW h (h+1) (Nat.le_succ _) L
 omega
theorem dG.IF(f:dG h L p):Ch (xB h (h+1) (L+1)) (bE p (ak p)):=by
 have:=JU f.h1 (Nat.le_succ h) ((ak p).length+1) 0 1 p (ak p) f.SX
 exact this.fx (sw f.h1 (Nat.le_succ h) _) (ke _ _ _ f.zp (bj p))
theorem dG.tO(f:dG h L p):bE p (ak p)≠[]:=Ar _ f.zp (bj p) f.ne
theorem dG.Nl(f:dG h L p):2*(h+(p.length+1-(bE p (ak p)).length)*(xB h (h+1) (L+1)+1))+3*xB h (h+1) (L+1)+5≤68719476736:=by
 obtain⟨h1,h2,h3,h4,h5⟩:=f.fb
 have hl:=f.len
 have:(p.length+1-(bE p (ak p)).length)*(xB h (h+1) (L+1)+1)≤(L+1)*(xB h (h+1) (L+1)+1):=Nat.mul_le_mul_right _ (by omega)
 omega
theorem dG.w5(f:dG h L p):(bE p (ak p)).length≤p.length:=((gT p (ak p) f.zp (bj p)).1.len (eu _ _) f.zp f.ne).2
theorem dG.xk(f:dG h L p):(cX p (bE p (ak p))).1.length≤p.length:=by
 have:=xf (p:=p) (eu p (ak p)) f.tO
 have:=List.length_pos_iff.2 f.tO
 omega
theorem dG.E2(f:dG h L p):Ch (fB h L) (cX p (bE p (ak p))).1:=by
 have hq:=Aw f.ch f.IF f.h1 (sw f.h1 (Nat.le_succ h) _) (eu _ _) f.tO
 have hl:=f.len
 have h1:(p.length+1-(bE p (ak p)).length)*(xB h (h+1) (L+1)+1)≤(L+1)*(xB h (h+1) (L+1)+1):=Nat.mul_le_mul_right _ (by omega)
 have h2:=Ch.DP (eA hq (show _≤h+(L+1)*(xB h (h+1) (L+1)+1)+xB h (h+1) (L+1) by omega))
 refine h2.mono ?_
 have h3:(cX p (bE p (ak p))).1.length*(h+(L+1)*(xB h (h+1) (L+1)+1)+xB h (h+1) (L+1))≤L*(h+(L+1)*(xB h (h+1) (L+1)+1)+xB h (h+1) (L+1)):=Nat.mul_le_mul_right _ (by have:=f.xk;omega)
 unfold fB
 omega
theorem dG.xl(f:dG h L p):Ch (fB h L) (bH p):=f.E2.fx f.fb.2.2.1 (kd _ _).1
theorem dG.pk(f:dG h L p):(bH p).length≤p.length:=by
 unfold bH
 rw[bL (kd _ _).1];exact f.xk
theorem dG.xm(f:dG h L p):v8 (fB h L) (fB h L+1) L 0 1 (bH p) (ak (bH p)):=by
 obtain⟨f1,f2,_⟩:=free_spec f.zp f.ne
 have:=f.pk
 have:=f.len
 have:=f.hL
 exact⟨f.xl,f.xl.derive (by omega),by omega,jQ f2,by omega,f1,bj _⟩
theorem GO{a b N:Nat}(ha:1≤a)(dF:a≤b):∀(n i j:Nat) (p d:List Rat),v8 a b N i j p d→∀g∈chainF n p d,Ch (xB a b (N+1)) g∧g.length≤p.length
 |0,i,j,p,d,e,g,hg=>by
  rw[chainF,List.mem_singleton] at hg
  rw[hg]
  exact⟨e.hp.mono (cz a b dF (by have:=e.idx;have:=e.lt;omega)),Nat.le_refl _⟩
 |n+1,i,j,p,d,e,g,hg=>by
  have hp:Ch (xB a b (N+1)) p:=e.hp.mono (cz a b dF (by have:=e.idx;have:=e.lt;omega))
  by_cases h:d=[]
  ·rw[h,iV,List.mem_singleton] at hg
   rw[hg];exact⟨hp,Nat.le_refl _⟩
  ·rw[fV h] at hg
   rcases List.mem_cons.1 hg with hg|hg
   ·rw[hg];exact⟨hp,Nat.le_refl _⟩
   ·obtain⟨r1,r2⟩:=e.rest dF h
    have hc:Ch (xB a b (j+(p.length-d.length))) (aL (a6 (-1) (bk p d))):=by
     refine Ch.trim ?_
     obtain⟨D,d1,d2,d3⟩:=r1
     refine⟨D,d1,d2,fun i => ?_⟩
     obtain⟨m,m1,m2⟩:=d3 i
     refine⟨-m,?_,by rw[iy];exact m2⟩
     rw[ct,Rat.intCast_neg,←m1];grind
    have:=GO ha dF n _ _ d _ (e.next dF h hc (gU e.zq h) (bh _)) g hg
    exact⟨this.1,by have:=e.len;omega⟩
theorem dG.chain(f:dG h L p):∀g∈bA p,Fl 1073741824 g∧g.length≤10:=by
 intro g hg
 have hf:=f.fb
 obtain⟨h1,h2⟩:=GO hf.2.2.1 (Nat.le_succ _) (bH p).length 0 1 _ _ f.xm g hg
 have h3:=f.sz
 have h4:=f.pk
 have h5:=f.len
 have h6:=f.hL
 exact⟨eA (h1.fl (sw hf.2.2.1 (Nat.le_succ _) _)) h3,by omega⟩
theorem dG.qx(f:dG h L p):(bA p).length≤11:=by
 have h1:=vS (bH p).length (bH p) (ak (bH p))
 have h2:=f.pk
 have h3:=f.len
 have h4:=f.hL
 have h5:(bA p).length≤(bH p).length+1:=h1
 omega
end
theorem tP:∀(l:Int) (r:List Int),0≤varS l r∧varS l r≤r.length
 |_,[]=>⟨Int.le_refl _,Int.le_refl _⟩
 |l,s::r=>by
  rw[varS]
  obtain⟨a,b⟩:=tP l r
  obtain⟨c,d⟩:=tP s r
  rw[List.length_cons]
  split
  ·omega
  ·split<;>omega
theorem lH(G:List (List Rat))(x:Rat):0≤fG G x∧fG G x≤G.length:=by
 have:=tP 0 (G.map (fun g=>sg (evalL g x)))
 rw[List.length_map] at this
 exact this
abbrev N6(G:List (List Rat)):PV:=dj (aC af.cells) (G.map (fun g=>g.map aJ))
theorem Ay.IG{h L:Nat}{p:List Rat}(f:dG h L p):Cp 76 [pq p] (.aB [pq (bH p),.az]):=by
 have hl:=f.len
 have hL:=f.hL
 have hf:=f.fb
 have Ff:=f.ch.fl f.h1
 have sM:=Hs.Check (p.map aJ) (sS Ff (by omega))
 rw[f.py] at sM
 have hd:=Hs.derive (p.map aJ) (by rw[bJ];omega) (iz (eA Ff (by omega)))
 rw[eS] at hd
 have hp:=List.length_pos_iff.2 f.ne
 have hg:=Ay.gcd f.h1 (Nat.le_succ h) (by omega) f.x2 p (ak p) f.SX (by omega)
 have M6:=Ay.ku p (bE p (ak p)) (eu _ _) f.tO f.ch f.IF f.h1 (sw f.h1 (Nat.le_succ h) _) (by omega) (by have:=f.w5;omega) f.Nl
 have hm:=Ay.fx (cX p (bE p (ak p))).1 (kd _ _).1 f.E2 hf.2.2.1 (by have:=f.xk;omega) (by omega)
 exact Di.e1 _ _ _ _ _ _ sM (by rw[bJ];omega) hd hg M6 hm
theorem CU.IG{h L:Nat}{p:List Rat}(f:dG h L p):Cp 78 [pq p] (.aB [pq (bH p),vI 0]):=by
 have hl:=f.len
 have hL:=f.hL
 have hf:=f.fb
 have Ff:=f.ch.fl f.h1
 have sM:=Iv.Check (p.map aJ) (sS Ff (by omega))
 rw[f.py] at sM
 have hd:=Iv.derive (p.map aJ) (by rw[bJ];omega) (iz (eA Ff (by omega)))
 rw[eS] at hd
 have hp:=List.length_pos_iff.2 f.ne
 have hg:=CU.gcd f.h1 (Nat.le_succ h) (by omega) f.x2 p (ak p) f.SX (by omega)
 have M6:=CU.ku p (bE p (ak p)) (eu _ _) f.tO f.ch f.IF f.h1 (sw f.h1 (Nat.le_succ h) _) (by omega) (by have:=f.w5;omega) f.Nl
 have hm:=CU.fx (cX p (bE p (ak p))).1 (kd _ _).1 f.E2 hf.2.2.1 (by have:=f.xk;omega) (by omega)
 exact o0.e2 _ _ _ _ _ _ _ sM rfl (by rw[bJ];omega) hd hg M6 hm
theorem uy{p q:List af}(hp:py p=0)(hq:py q=0):zT p q=0:=by unfold zT;rw[if_pos hp];exact hq
theorem Ay.next{a b N i j:Nat}(ha:1≤a)(dF:a≤b)(hN:N≤60)(hk:4*xB a b (N+2)+10≤68719476736){p d:List Rat}(e:v8 a b N i j p d)(h:d≠[]):Cp 236 [pq p,pq d] (.aB [pq (cX p d).1,pq (bk p d),.az])∧Cp 237 [pq (bk p d),(aJ ((-1:Int):Rat)).pv] (.aB [pq (aL (a6 (-1) (bk p d))),.az]):=by
 have x1:∀j,1≤xB a b j:=sw ha dF
 have hi:=e.idx
 have xU:=e.lt
 have hlen:=e.len
 have SU:=e.bound
 obtain⟨r1,r2⟩:=e.rest dF h
 have hx:xB a b (N+2)=xB a b N+2*(xB a b (N+1)+1):=rfl
 have b0:=cz a b dF (i:=i) (j:=N+1) (by omega)
 have b1:=cz a b dF (i:=j+(p.length-d.length)) (j:=N+1) (by omega)
 have b2:=cz a b dF (i:=j) (j:=N+1) (by omega)
 have Xu:=fj e.zp (by omega)
 have Xv:=fj e.zq (by omega)
 have Xw:=cL p d
 have Kx:=fj Xw (by omega)
 constructor
 ·have sM:=Ay.ux (p.map aJ) (d.map aJ) (sS (e.hp.fl (x1 i)) (by omega)) (sS (e.hq.fl (x1 j)) (by omega))
  rw[uy Xu Xv] at sM
  have hd:=Ay.ku p d e.zq h e.hp e.hq (x1 i) (x1 j) (by omega) (by omega) (by
   obtain⟨j',rfl⟩:∃j',j=j'+1:=⟨j-1,by omega⟩
   obtain⟨d',hd⟩:∃d',p.length-d.length=d'+1:=⟨p.length-d.length-1,by omega⟩
   have h2:=cz a b dF (i:=i) (j:=j') (by omega)
   have h3:=sv a b dF j' d'
   have h4:=cz a b dF (i:=j'+1+(d'+1)) (j:=N+1) (by omega)
   rw[show p.length+1-d.length=d'+2 from by omega]
   omega)
  have:=List.length_pos_iff.2 h
  exact Ge.e1 _ _ _ _ sM (by rw[bJ];omega) hd
 ·have sM:=Hs.Check ((bk p d).map aJ) (sS (r1.fl (x1 _)) (by omega))
  rw[Kx] at sM
  have hp:=Ay.plus (a:=1) (d:=1) [] (bk p d) ((-1:Int):Rat) (by simp) (by omega) (fun x hx=>by cases hx) (r1.fl (x1 _)) (by decide) (by omega) (x1 _) (by omega)
  exact BC.e0 _ _ _ sM hp
theorem CU.next{a b N i j:Nat}(ha:1≤a)(dF:a≤b)(hN:N≤60)(hk:4*xB a b (N+2)+10≤68719476736){p d:List Rat}(e:v8 a b N i j p d)(h:d≠[]):Cp 242 [pq p,pq d] (.aB [pq (cX p d).1,pq (bk p d),vI 0])∧Cp 243 [pq (bk p d),(aJ ((-1:Int):Rat)).pv] (.aB [pq (aL (a6 (-1) (bk p d))),vI 0]):=by
 have x1:∀j,1≤xB a b j:=sw ha dF
 have hi:=e.idx
 have xU:=e.lt
 have hlen:=e.len
 have SU:=e.bound
 obtain⟨r1,r2⟩:=e.rest dF h
 have hx:xB a b (N+2)=xB a b N+2*(xB a b (N+1)+1):=rfl
 have b0:=cz a b dF (i:=i) (j:=N+1) (by omega)
 have b1:=cz a b dF (i:=j+(p.length-d.length)) (j:=N+1) (by omega)
 have b2:=cz a b dF (i:=j) (j:=N+1) (by omega)
 have Xu:=fj e.zp (by omega)
 have Xv:=fj e.zq (by omega)
 have Xw:=cL p d
 have Kx:=fj Xw (by omega)
 constructor
 ·have sM:=CU.both (p.map aJ) (d.map aJ) (sS (e.hp.fl (x1 i)) (by omega)) (sS (e.hq.fl (x1 j)) (by omega))
  rw[uy Xu Xv] at sM
  have hd:=CU.ku p d e.zq h e.hp e.hq (x1 i) (x1 j) (by omega) (by omega) (by
   obtain⟨j',rfl⟩:∃j',j=j'+1:=⟨j-1,by omega⟩
   obtain⟨d',hd⟩:∃d',p.length-d.length=d'+1:=⟨p.length-d.length-1,by omega⟩
   have h2:=cz a b dF (i:=i) (j:=j') (by omega)
   have h3:=sv a b dF j' d'
   have h4:=cz a b dF (i:=j'+1+(d'+1)) (j:=N+1) (by omega)
   rw[show p.length+1-d.length=d'+2 from by omega]
   omega)
  have:=List.length_pos_iff.2 h
  exact qg.e2 _ _ _ _ _ sM rfl (by rw[bJ];omega) hd
 ·have sM:=Iv.Check ((bk p d).map aJ) (sS (r1.fl (x1 _)) (by omega))
  rw[Kx] at sM
  have hp:=CU.plus (a:=1) (d:=1) [] (bk p d) ((-1:Int):Rat) 0 (by simp) (by omega) (fun x hx=>by cases hx) (r1.fl (x1 _)) (by decide) (by omega) (x1 _) (by omega)
  exact n7.e1 _ _ _ _ sM rfl hp
theorem dG.JZ{h L:Nat}{p:List Rat}(f:dG h L p):4*xB (fB h L) (fB h L+1) (L+2)+10≤68719476736:=by
 have e:xB (fB h L) (fB h L+1) (L+2)=xB (fB h L) (fB h L+1) L+2*(xB (fB h L) (fB h L+1) (L+1)+1):=rfl
 have h1:=EW (fB h L) (fB h L+1) (Nat.le_succ _) L
 have h2:=f.sz
 have h3:sB h L=xB (fB h L) (fB h L+1) (L+1):=rfl
 omega
end Go.Proofs.YtllmkadmohkbfaaGreatDoor.Sym
namespace Go.Proofs.YtllmkadmohkbfaaGreatDoor.Sym
open Go Path cP
set_option linter.unusedVariables false
namespace J0
theorem check(p:List af)(hp:lh 274877906944 p):Cp 165 [ae p] (bw (pc (if py p=0 then (if p.length=0 then 8 else 0) else py p))):=by
 have hk:=Hs.Check p hp
 by_cases h:py p=0
 ·rw[if_pos h]
  rw[h] at hk
  by_cases h0:p.length=0
  ·rw[if_pos h0];exact qk.e0 p hk h0
  ·rw[if_neg h0];exact qk.e1 p hk h0
 ·rw[if_neg h]
  rw[jO h] at hk ⊢
  exact qk.e2 p _ hk
theorem chain{h L:Nat}{p:List Rat}(f:dG h L p):Cp 151 [pq p] (.aB [N6 (bA p),.az]):=by
 have hL:=f.hL
 have NX:=f.fb
 obtain⟨f1,f2,_⟩:=free_spec f.zp f.ne
 have Ff:=f.pk
 have hl:=f.len
 have K9:=f.xl.fl NX.2.2.1
 have hd:=Hs.so ((bH p).map aJ) (fj f1 (by omega)) (iz (eA K9 (by omega)))
 rw[eS] at hd
 have loop:∀(n i j:Nat) (pre:List (List Rat)) (q d:List Rat),d.length<n→pre.length+n≤20→v8 (fB h L) (fB h L+1) L i j q d→nB.ah (d.map aJ) ((pre++[q]).map (fun g=>g.map aJ)) (.aB [N6 (pre++chainF n q d),.az]):=by
  intro n
  induction n with
  |zero=>intro i j pre q d hn;omega
  |succ n ih =>
   intro i j pre q d hn I1 e
   by_cases h0:d=[]
   ·subst h0
    rw[iV]
    exact nB.tq _ _ (by simp)
   ·rw[fV h0]
    obtain⟨c1,c2⟩:=Ay.next NX.2.2.1 (Nat.le_succ _) (by omega) f.JZ e h0
    obtain⟨r1,r2⟩:=e.rest (Nat.le_succ _) h0
    have hc:Ch (xB (fB h L) (fB h L+1) (j+(q.length-d.length))) (aL (a6 (-1) (bk q d))):=by
     refine Ch.trim ?_
     obtain⟨D,d1,d2,d3⟩:=r1
     refine⟨D,d1,d2,fun i => ?_⟩
     obtain⟨m,m1,m2⟩:=d3 i
     refine⟨-m,?_,by rw[iy];exact m2⟩
     rw[ct,Rat.intCast_neg,←m1];grind
    have next:=ih _ _ (pre++[q]) d _ (by have:=gU (p:=q) e.zq h0;omega) (by rw[List.length_append,List.length_singleton];omega) (e.next (Nat.le_succ _) h0 hc (gU e.zq h0) (bh _))
    have es:(pre++[q]).map (fun g=>g.map aJ)++[d.map aJ]=(pre++[q]++[d]).map (fun g=>g.map aJ):=by rw[List.map_append (l₁:=pre++[q])];rfl
    have hlen:((pre++[q]++[d]).map (fun g=>g.map aJ)).length=pre.length+2:=by simp
    have xj:=um.Of (-1) (by unfold ax;omega)
    have:=List.length_pos_iff.2 h0
    refine nB.l10 _ _ pre.length (q.map aJ) _ _ _ _ (by rw[bJ];omega) (by rw[es,hlen];omega) (by rw[es,hlen];unfold ax;omega) (by rw[es,hlen];omega) (by rw[es,hlen];omega) (by rw[es];simp) c1 xj c2 ?_
    rw[es]
    have e2:pre++[q]++chainF n d (aL (a6 (-1) (bk q d)))=pre++q::chainF n d (aL (a6 (-1) (bk q d))):=by simp
    rwa[e2] at next
 have:=loop (bH p).length 0 1 [] (bH p) (ak (bH p)) (jQ f2) (by simp;omega) f.xm
 exact nB.e0 _ _ _ (Ay.IG f) hd this
theorem changes(G:List (List Rat))(x:Rat)(hG:∀g∈G,aK g=false∧Fl 1073741824 g∧g.length≤10)(hl:G.length≤1000)(hx:ht x≤1073741824):Cp 238 [N6 G,(aJ x).pv] (vI (fG G x)):=by
 have loop:∀(j t n:Nat) (l:Int),G.length-t=j→t≤G.length→n≤t → -1≤l→l≤1→gX.ah n l (G.map (fun g=>g.map aJ)) t (aJ x) (vI ((n:Int)+varS l ((G.drop t).map (fun g=>sg (evalL g x))))):=by
  intro j
  induction j with
  |zero =>
   intro t n l hj ht hn _ _
   rw[List.drop_of_length_le (by omega),List.map_nil,varS,Int.add_zero]
   exact gX.tq n l _ t _ (by rw[List.length_map];omega)
  |succ j ih =>
   intro t n l hj Y1 hn yI Pb
   obtain⟨g,hg⟩:∃g,G[t]? = some g:=⟨_,List.getElem?_eq_getElem (by omega)⟩
   obtain⟨z,fl,ln⟩:=hG g (List.mem_of_getElem? hg)
   have hm:(G.map (fun g=>g.map aJ))[t]? = some (g.map aJ):=by rw[List.getElem?_map,hg];rfl
   have sO:=Hs.Eval (g.map aJ) (aJ x) (fj z (by omega)) (iz fl) (aZ hx)
   rw[eS,bl] at sO
   have h3:=nh g x 1073741824 fl hx
   have h4:g.length*(2*1073741824+1)≤10*(2*1073741824+1):=Nat.mul_le_mul_right _ ln
   have hs:=QF.Sign (evalL g x) (by omega)
   have hv:=tz.e0 _ _ _ none _ sO hs
   have Pc:eh (evalL g x) 0=sg (evalL g x):=rfl
   have Xx:=jS (evalL g x)
   rw[Pc] at hv
   have ba:t<(G.map (fun g=>g.map aJ)).length:=by rw[List.length_map];omega
   rw[drop_cons hg,List.map_cons,varS]
   generalize sg (evalL g x)=s at hv Xx
   by_cases h0:s=0
   ·rw[if_pos h0]
    exact gX.kM n l _ t _ _ _ ba hm hv h0 (by omega) (ih (t+1) n l (by omega) (by omega) (by omega) yI Pb)
   ·rw[if_neg h0]
    by_cases h1:s = -l
    ·rw[if_pos h1]
     have:=ih (t+1) (n+1) s (by omega) (by omega) (by omega) (by omega) (by omega)
     rw[show (((n+1:Nat):Int))+varS s ((G.drop (t+1)).map (fun g=>sg (evalL g x)))=(n:Int)+(1+varS s ((G.drop (t+1)).map (fun g=>sg (evalL g x)))) from by omega] at this
     exact gX.l10 n l _ t _ _ _ ba hm hv h0 (by unfold ax;omega) h1 (by omega) (by omega) this
    ·rw[if_neg h1,Int.zero_add]
     exact gX.cR n l _ t _ _ _ ba hm hv h0 (by unfold ax;omega) h1 (by omega) (ih (t+1) n s (by omega) (by omega) (by omega) (by omega) (by omega))
 have:=loop _ 0 0 0 rfl (by omega) (by omega) (by omega) (by omega)
 rw[List.drop_zero,show(((0:Nat):Int))=0 from rfl,Int.zero_add] at this
 exact gX.e0 _ _ this
theorem oy{h L:Nat}{p:List Rat}(f:dG h L p):∀g∈bA p,aK g=false∧Fl 1073741824 g∧g.length≤10:=by
 intro g hg
 refine⟨?_,f.chain g hg⟩
 have key:∀(n:Nat) (p d:List Rat),aK p=false→aK d=false→∀g∈chainF n p d,aK g=false:=by
  intro n
  induction n with
  |zero=>intro p d hp _ g hg;rw[chainF,List.mem_singleton] at hg;rw[hg];exact hp
  |succ n ih =>
   intro p d hp hd g hg
   by_cases h:d=[]
   ·rw[h,iV,List.mem_singleton] at hg;rw[hg];exact hp
   ·rw[fV h] at hg
    rcases List.mem_cons.1 hg with hg|hg
    ·rw[hg];exact hp
    ·exact ih d _ hd (bh _) g hg
 exact key _ _ _ (free_spec f.zp f.ne).1 (bj _) g hg
theorem Count{h L:Nat}{p:List Rat}(f:dG h L p)(lo hi:Rat)(Xy:lo≤hi)(h1:ht lo≤1073741824)(h2:ht hi≤1073741824):Cp 246 [pq p,(aJ lo).pv,(aJ hi).pv] (.aB [vI (fG (bA p) lo-fG (bA p) hi),.az]):=by
 have hc:=f.qx
 have sM:=check (p.map aJ) (sS (f.ch.fl f.h1) (by have:=f.fb;omega))
 have hp:=List.length_pos_iff.2 f.ne
 rw[f.py,if_pos rfl,if_neg (by rw[bJ];omega)] at sM
 obtain⟨a1,a2⟩:=lH (bA p) lo
 obtain⟨b1,b2⟩:=lH (bA p) hi
 exact zc.e3 _ _ _ _ _ _ _ _ _ sM (QF.Valid lo (by omega)) rfl (QF.Valid hi (by omega)) rfl (QF.o9 lo hi (by omega) (by omega)) (qq.2 Xy) (chain f) (changes _ lo (oy f) (by omega) h1) (changes _ hi (oy f) (by omega) h2) (by unfold ax;omega)
end J0
namespace Fm
theorem Error(p:List af)(hp:lh 274877906944 p):Cp 83 [ae p] (vI (if py p=0 then (if p.length=0 then 8 else 0) else py p)):=by
 have hk:=Iv.Check p hp
 by_cases h:py p=0
 ·rw[if_pos h]
  by_cases h0:p.length=0
  ·rw[if_pos h0];exact ie.e1 p _ hk h h0
  ·rw[if_neg h0];exact ie.e2 p _ hk h h0
 ·rw[if_neg h];exact ie.e0 p _ hk h
theorem chain{h L:Nat}{p:List Rat}(f:dG h L p):Cp 159 [pq p] (N6 (bA p)):=by
 have hL:=f.hL
 have NX:=f.fb
 obtain⟨f1,f2,_⟩:=free_spec f.zp f.ne
 have Ff:=f.pk
 have hl:=f.len
 have K9:=f.xl.fl NX.2.2.1
 have hd:=Iv.so ((bH p).map aJ) (fj f1 (by omega)) (iz (eA K9 (by omega)))
 rw[eS] at hd
 have loop:∀(n i j:Nat) (pre:List (List Rat)) (q d:List Rat),d.length<n→pre.length+n≤20→v8 (fB h L) (fB h L+1) L i j q d→fL.ah (d.map aJ) ((pre++[q]).map (fun g=>g.map aJ)) (N6 (pre++chainF n q d)):=by
  intro n
  induction n with
  |zero=>intro i j pre q d hn;omega
  |succ n ih =>
   intro i j pre q d hn I1 e
   by_cases h0:d=[]
   ·subst h0
    rw[iV]
    exact fL.cR _ _ (by simp)
   ·rw[fV h0]
    obtain⟨c1,c2⟩:=CU.next NX.2.2.1 (Nat.le_succ _) (by omega) f.JZ e h0
    obtain⟨r1,r2⟩:=e.rest (Nat.le_succ _) h0
    have hc:Ch (xB (fB h L) (fB h L+1) (j+(q.length-d.length))) (aL (a6 (-1) (bk q d))):=by
     refine Ch.trim ?_
     obtain⟨D,d1,d2,d3⟩:=r1
     refine⟨D,d1,d2,fun i => ?_⟩
     obtain⟨m,m1,m2⟩:=d3 i
     refine⟨-m,?_,by rw[iy];exact m2⟩
     rw[ct,Rat.intCast_neg,←m1];grind
    have next:=ih _ _ (pre++[q]) d _ (by have:=gU (p:=q) e.zq h0;omega) (by rw[List.length_append,List.length_singleton];omega) (e.next (Nat.le_succ _) h0 hc (gU e.zq h0) (bh _))
    have es:(pre++[q]).map (fun g=>g.map aJ)++[d.map aJ]=(pre++[q]++[d]).map (fun g=>g.map aJ):=by rw[List.map_append (l₁:=pre++[q])];rfl
    have hlen:((pre++[q]++[d]).map (fun g=>g.map aJ)).length=pre.length+2:=by simp
    have xj:=uo.Of (-1) (by unfold ax;omega)
    have:=List.length_pos_iff.2 h0
    refine fL.l10 _ _ pre.length (q.map aJ) _ _ _ _ _ _ (by rw[bJ];omega) (by rw[es,hlen];omega) (by rw[es,hlen];unfold ax;omega) (by rw[es,hlen];omega) (by rw[es,hlen];omega) (by rw[es];simp) c1 xj c2 ?_
    rw[es]
    have e2:pre++[q]++chainF n d (aL (a6 (-1) (bk q d)))=pre++q::chainF n d (aL (a6 (-1) (bk q d))):=by simp
    rwa[e2] at next
 have:=loop (bH p).length 0 1 [] (bH p) (ak (bH p)) (jQ f2) (by simp;omega) f.xm
 exact fL.e0 _ _ _ _ _ (CU.IG f) hd this
theorem changes(G:List (List Rat))(x:Rat)(hG:∀g∈G,aK g=false∧Fl 1073741824 g∧g.length≤10)(hl:G.length≤1000)(hx:ht x≤1073741824):Cp 241 [N6 G,(aJ x).pv] (vI (fG G x)):=by
 have loop:∀(j t n:Nat) (l:Int),G.length-t=j→t≤G.length→n≤t → -1≤l→l≤1→dc.ah n l (G.map (fun g=>g.map aJ)) t (aJ x) (vI ((n:Int)+varS l ((G.drop t).map (fun g=>sg (evalL g x))))):=by
  intro j
  induction j with
  |zero =>
   intro t n l hj ht hn _ _
   rw[List.drop_of_length_le (by omega),List.map_nil,varS,Int.add_zero]
   exact dc.tq n l _ t _ (by rw[List.length_map];omega)
  |succ j ih =>
   intro t n l hj Y1 hn yI Pb
   obtain⟨g,hg⟩:∃g,G[t]? = some g:=⟨_,List.getElem?_eq_getElem (by omega)⟩
   obtain⟨z,fl,ln⟩:=hG g (List.mem_of_getElem? hg)
   have hm:(G.map (fun g=>g.map aJ))[t]? = some (g.map aJ):=by rw[List.getElem?_map,hg];rfl
   have sO:=Iv.At (g.map aJ) (aJ x) (by rw[bJ];omega) (iz fl) (aZ hx)
   rw[eS,bl] at sO
   have h3:=nh g x 1073741824 fl hx
   have h4:g.length*(2*1073741824+1)≤10*(2*1073741824+1):=Nat.mul_le_mul_right _ ln
   have hv:=QR.Sign (evalL g x) (by omega)
   have Pc:eh (evalL g x) 0=sg (evalL g x):=rfl
   have Xx:=jS (evalL g x)
   rw[Pc] at hv
   have ba:t<(G.map (fun g=>g.map aJ)).length:=by rw[List.length_map];omega
   rw[drop_cons hg,List.map_cons,varS]
   generalize sg (evalL g x)=s at hv Xx
   by_cases h0:s=0
   ·rw[if_pos h0]
    exact dc.l10 n l _ t _ _ _ _ ba hm sO hv h0 (by omega) (ih (t+1) n l (by omega) (by omega) (by omega) yI Pb)
   ·rw[if_neg h0]
    by_cases h1:s = -l
    ·rw[if_pos h1]
     have:=ih (t+1) (n+1) s (by omega) (by omega) (by omega) (by omega) (by omega)
     rw[show (((n+1:Nat):Int))+varS s ((G.drop (t+1)).map (fun g=>sg (evalL g x)))=(n:Int)+(1+varS s ((G.drop (t+1)).map (fun g=>sg (evalL g x)))) from by omega] at this
     exact dc.cR n l _ t _ _ _ _ ba hm sO hv h0 (by unfold ax;omega) h1 (by omega) (by omega) this
    ·rw[if_neg h1,Int.zero_add]
     exact dc.kM n l _ t _ _ _ _ ba hm sO hv h0 (by unfold ax;omega) h1 (by omega) (ih (t+1) n s (by omega) (by omega) (by omega) (by omega) (by omega))
 have:=loop _ 0 0 0 rfl (by omega) (by omega) (by omega) (by omega)
 rw[List.drop_zero,show(((0:Nat):Int))=0 from rfl,Int.zero_add] at this
 exact dc.e0 _ _ this
theorem count{h L:Nat}{p:List Rat}(f:dG h L p)(lo hi:Rat)(h1:ht lo≤1073741824)(h2:ht hi≤1073741824):Cp 249 [pq p,(aJ lo).pv,(aJ hi).pv] (vI (fG (bA p) lo-fG (bA p) hi)):=by
 have hc:=f.qx
 obtain⟨a1,a2⟩:=lH (bA p) lo
 obtain⟨b1,b2⟩:=lH (bA p) hi
 exact oc.e0 _ _ _ _ _ _ (chain f) (changes _ lo (J0.oy f) (by omega) h1) (changes _ hi (J0.oy f) (by omega) h2) (by unfold ax;omega)
theorem Count{h L:Nat}{p:List Rat}(f:dG h L p)(lo hi:Rat)(Xy:lo≤hi)(h1:ht lo≤1073741824)(h2:ht hi≤1073741824):Cp 207 [pq p,(aJ lo).pv,(aJ hi).pv] (.aB [vI (fG (bA p) lo-fG (bA p) hi),vI 0]):=by
 have sM:=Error (p.map aJ) (sS (f.ch.fl f.h1) (by have:=f.fb;omega))
 have hp:=List.length_pos_iff.2 f.ne
 rw[f.py,if_pos rfl,if_neg (by rw[bJ];omega)] at sM
 exact oa.e4 _ _ _ _ _ _ _ _ sM rfl (QR.Valid lo (by omega)) rfl (QR.Valid hi (by omega)) rfl (QR.o9 lo hi (by omega) (by omega)) (qq.2 Xy) (count f lo hi h1 h2)
end Fm
def gI(a b:Rat):ai:=⟨aJ a,aJ b⟩
def ai.ok(r:ai):Bool:=r.lo.valid&&(r.hi.valid&&decide (r.lo.val≤r.hi.val))
def loG(r:ai):Rat:=bif r.ok then r.lo.val else 0
def hiG(r:ai):Rat:=bif r.ok then r.hi.val else 0
theorem xn{r:ai}(h:r.ok=true):r.lo.valid=true∧r.hi.valid=true∧r.lo.val≤r.hi.val:=by
 unfold ai.ok at h
 simp only[Bool.and_eq_true,decide_eq_true_eq] at h
 exact h
theorem yo(r:ai):loG r≤hiG r:=by
 unfold loG hiG
 cases h:r.ok with
 |true=>exact(xn h).2.2
 |false=>exact Rat.le_refl
theorem Cd{a b:Rat}(h:a≤b):(gI a b).ok=true:=by
 unfold ai.ok gI
 simp only[ri,bl,decide_eq_true h,Bool.and_self]
theorem nX{a b:Rat}(h:a≤b):loG (gI a b)=a:=by unfold loG;rw[Cd h,cond_true];exact bl a
theorem nY{a b:Rat}(h:a≤b):hiG (gI a b)=b:=by unfold hiG;rw[Cd h,cond_true];exact bl b
theorem Ce{r:ai}(h:r.ok=true):gI (loG r) (hiG r)=r:=by
 obtain⟨h1,h2,h3⟩:=xn h
 unfold gI loG hiG
 rw[h,cond_true,cond_true,yc h1,yc h2]
theorem J1{r:ai}(h:r.ok=false):gI (loG r) (hiG r)=⟨⟨false,[],[]⟩,⟨false,[],[]⟩⟩:=by
 unfold gI loG hiG
 rw[h];rfl
abbrev pC(k:Nat)(r:ai):Prop:=(r.lo.num.length≤k∧r.lo.den.length≤k)∧(r.hi.num.length≤k∧r.hi.den.length≤k)
theorem ou{a b:Rat}{k:Nat}(ha:ht a≤k)(hb:ht b≤k):pC k (gI a b):=⟨aZ ha,aZ hb⟩
theorem sx{r:ai}{k:Nat}(h:pC k r)(hk:1≤k):ht (loG r)≤k:=by
 unfold loG
 cases r.ok with
 |true=>exact dU h.1.1 h.1.2 hk
 |false=>exact Nat.le_trans (Nat.le_of_eq jA) hk
theorem sA{r:ai}{k:Nat}(h:pC k r)(hk:1≤k):ht (hiG r)≤k:=by
 unfold hiG
 cases r.ok with
 |true=>exact dU h.2.1 h.2.2 hk
 |false=>exact Nat.le_trans (Nat.le_of_eq jA) hk
def mr(a b c d:Rat):Rat:=fa (fa (fa (a*c) (a*d)) (b*c)) (b*d)
def mu(a b c d:Rat):Rat:=fR (fR (fR (a*c) (a*d)) (b*c)) (b*d)
theorem GP(a b c d:Rat):mr a b c d≤mu a b c d:=by
 unfold mr mu
 have h1:=jq (fa (fa (a*c) (a*d)) (b*c)) (b*d)
 have h2:=ka (fR (fR (a*c) (a*d)) (b*c)) (b*d)
 grind
theorem GQ{a b c d:Rat}{k m:Nat}(ha:ht a≤k)(hb:ht b≤k)(hc:ht c≤m)(hd:ht d≤m):ht (mr a b c d)≤k+m:=by
 have h1:=fw a c
 have h2:=fw a d
 have h3:=fw b c
 have h4:=fw b d
 unfold mr
 exact BT _ _ (BT _ _ (BT _ _ (by omega) (by omega)) (by omega)) (by omega)
theorem GR{a b c d:Rat}{k m:Nat}(ha:ht a≤k)(hb:ht b≤k)(hc:ht c≤m)(hd:ht d≤m):ht (mu a b c d)≤k+m:=by
 have h1:=fw a c
 have h2:=fw a d
 have h3:=fw b c
 have h4:=fw b d
 unfold mu
 exact BU _ _ (BU _ _ (BU _ _ (by omega) (by omega)) (by omega)) (by omega)
namespace Sc
theorem Valid(r:ai)(h:pC 68719476736 r):Cp 213 [r.pv] (vB r.ok):=by
 have h1:=um.Valid r.lo ⟨by omega,by omega⟩
 have h2:=um.Valid r.hi ⟨by omega,by omega⟩
 have h3:=um.o9 r.lo r.hi ⟨by omega,by omega⟩ ⟨by omega,by omega⟩
 unfold ai.ok
 cases hv:r.lo.valid with
 |false=>exact mc.e2 r _ h1 hv
 |true =>
  cases hw:r.hi.valid with
  |false=>exact mc.e1 r _ _ h1 hv h2 hw
  |true =>
   have:=mc.e0 r _ _ _ h1 hv h2 hw h3
   rwa[show decide (eh r.lo.val r.hi.val≤0)=decide (r.lo.val≤r.hi.val) from decide_eq_decide.2 qq] at this
theorem clean(r:ai)(h:pC 68719476736 r):Cp 128 [r.pv] (gI (loG r) (hiG r)).pv:=by
 have hv:=Valid r h
 cases hk:r.ok with
 |false=>rw[J1 hk];exact o5.e0 r _ hv hk
 |true =>
  obtain⟨h1,h2,h3⟩:=xn hk
  have:=o5.e1 r _ _ _ hv hk (Hs.uM r.lo ⟨by omega,by omega⟩) (Hs.uM r.hi ⟨by omega,by omega⟩)
  rw[yc h1,yc h2] at this
  rw[Ce hk];exact this
theorem GS(x:Rat)(hx:ht x≤68719476736):Cp 65 [(aJ x).pv] (gI x x).pv:=tx.e0 _ _ _ (QF.uM x hx) (QF.uM x hx)
end Sc
namespace Lm
theorem Valid(r:ai)(h:pC 68719476736 r):Cp 247 [r.pv] (vB r.ok):=by
 have h1:=uo.Valid r.lo ⟨by omega,by omega⟩
 have h2:=uo.Valid r.hi ⟨by omega,by omega⟩
 have h3:=uo.o9 r.lo r.hi ⟨by omega,by omega⟩ ⟨by omega,by omega⟩
 unfold ai.ok
 cases hv:r.lo.valid with
 |false=>exact ic.e2 r _ h1 hv
 |true =>
  cases hw:r.hi.valid with
  |false=>exact ic.e1 r _ _ h1 hv h2 hw
  |true =>
   have:=ic.e0 r _ _ _ h1 hv h2 hw h3
   rwa[show decide (eh r.lo.val r.hi.val≤0)=decide (r.lo.val≤r.hi.val) from decide_eq_decide.2 qq] at this
theorem given(r:ai)(h:pC 68719476736 r):Cp 225 [r.pv] (gI (loG r) (hiG r)).pv:=by
 have hv:=Valid r h
 cases hk:r.ok with
 |false=>rw[J1 hk];exact ia.e0 r _ hv hk
 |true=>rw[Ce hk];exact ia.e1 r _ hv hk
theorem span(a:Rat)(q:List Rat)(hl:q.length<4611686018427387904)(ha:ht a≤68719476736)(hq:Fl 68719476736 q):Cp 258 [ae (aJ a::q.map aJ)] (gI (q.foldl fa a) (q.foldl fR a)).pv:=by
 have loop:∀(j t:Nat) (u v:Rat),(a::q).length-t=j→t≤(a::q).length→ht u≤68719476736→ht v≤68719476736→gu.ah ((a::q).map aJ) t (gI u v) (gI (((a::q).drop t).foldl fa u) (((a::q).drop t).foldl fR v)).pv:=by
  intro j
  induction j with
  |zero =>
   intro t u v hj ht _ _
   rw[List.drop_of_length_le (by omega)]
   exact gu.cR _ t _ (by rw[List.length_map];omega)
  |succ j ih =>
   intro t u v hj ht hu hv
   obtain⟨y,hy⟩:∃y,(a::q)[t]? = some y:=⟨_,List.getElem?_eq_getElem (by omega)⟩
   have Vk:Sym.ht y≤68719476736:=by
    rcases List.mem_cons.1 (List.mem_of_getElem? hy) with e|hm
    ·rw[e];exact ha
    ·exact hq y hm
   rw[drop_cons hy,List.foldl_cons,List.foldl_cons]
   refine gu.l10 _ t (gI u v) (aJ y) _ _ (by rw[List.length_map];omega) (by rw[List.getElem?_map,hy];rfl) (QR.Min u y hu Vk) (QR.Max v y hv Vk) (by simp at ht;omega) ?_
   exact ih (t+1) _ _ (by omega) (by omega) (BT _ _ hu Vk) (BU _ _ hv Vk)
 have:=loop _ 0 a a rfl (by omega) ha ha
 rw[List.drop_zero,List.foldl_cons,List.foldl_cons,yf,yg] at this
 exact gu.e0 _ _ _ _ rfl (QR.uM a ha) (QR.uM a ha) this
theorem GS(x:Rat)(hx:ht x≤68719476736):Cp 261 [(aJ x).pv] (gI x x).pv:=n9.e0 _ _ (span x [] (by simp) hx (fun y h=>by cases h))
theorem Add(r s:ai)(h:pC 34359738367 r)(h':pC 34359738367 s):Cp 259 [r.pv,s.pv] (gI (loG r+loG s) (hiG r+hiG s)).pv:=by
 have a1:=sx h (by omega)
 have a2:=sA h (by omega)
 have a3:=sx h' (by omega)
 have a4:=sA h' (by omega)
 have b1:=mT (loG r) (loG s)
 have b2:=mT (hiG r) (hiG s)
 have l1:=yo r
 have l2:=yo s
 have:=span (loG r+loG s) [hiG r+hiG s] (by simp) (by omega) (fun y hy=>by rw[List.mem_singleton.1 hy];omega)
 simp only[List.foldl] at this
 rw[pd (by grind),vP (by grind)] at this
 exact qi.e0 r s _ _ _ _ _ (given r ⟨by omega,by omega⟩) (given s ⟨by omega,by omega⟩) (QR.Add _ _ (by omega) (by omega)) (QR.Add _ _ (by omega) (by omega)) this
theorem Xz(r s:ai)(h:pC 68719476736 r)(h':pC 68719476736 s):Cp 206 [r.pv,s.pv] (gI (fa (loG r) (loG s)) (fR (hiG r) (hiG s))).pv:=by
 have a1:=sx h (by omega)
 have a2:=sA h (by omega)
 have a3:=sx h' (by omega)
 have a4:=sA h' (by omega)
 have l1:=yo r
 have l2:=yo s
 have:=span (loG r) [hiG r,loG s,hiG s] (by simp) a1 (fun y hy=>by simp at hy;rcases hy with e|e|e<;>rw[e]<;>assumption)
 simp only[List.foldl] at this
 have e1:fa (fa (fa (loG r) (hiG r)) (loG s)) (hiG s)=fa (loG r) (loG s):=by
  rw[pd l1]
  exact pd (Rat.le_trans (jq _ _) l2)
 have e2:fR (fR (fR (loG r) (hiG r)) (loG s)) (hiG s)=fR (hiG r) (hiG s):=by
  rw[vP l1]
  have g1:=iA (fR (hiG r) (loG s)) (hiG s)
  have g2:=ka (fR (hiG r) (loG s)) (hiG s)
  have g3:=iA (hiG r) (loG s)
  exact Rat.le_antisymm (w8 (w8 (iA _ _) (Rat.le_trans l2 (ka _ _))) (ka _ _)) (w8 (Rat.le_trans g3 g1) g2)
 rw[e1,e2] at this
 exact o6.e0 r s _ _ _ (given r h) (given s h') this
theorem Mul(r s:ai)(h:pC 34359738368 r)(h':pC 34359738368 s):Cp 260 [r.pv,s.pv] (gI (mr (loG r) (hiG r) (loG s) (hiG s)) (mu (loG r) (hiG r) (loG s) (hiG s))).pv:=by
 have a1:=sx h (by omega)
 have a2:=sA h (by omega)
 have a3:=sx h' (by omega)
 have a4:=sA h' (by omega)
 have b1:=fw (loG r) (loG s)
 have b2:=fw (loG r) (hiG s)
 have b3:=fw (hiG r) (loG s)
 have b4:=fw (hiG r) (hiG s)
 have:=span (loG r*loG s) [loG r*hiG s,hiG r*loG s,hiG r*hiG s] (by simp) (by omega) (fun y hy=>by simp at hy;rcases hy with e|e|e<;>rw[e]<;>omega)
 exact qj.e0 r s _ _ _ _ _ _ _ (given r ⟨by omega,by omega⟩) (given s ⟨by omega,by omega⟩) (QR.Mul _ _ (by omega) (by omega)) (QR.Mul _ _ (by omega) (by omega)) (QR.Mul _ _ (by omega) (by omega)) (QR.Mul _ _ (by omega) (by omega)) this
end Lm
def ptQ(a w:Rat)(k j:Nat):Rat:=a+w*Rat.divInt (j:Int) ((2^k:Nat):Int)
theorem Cf(k:Nat):(((2^k:Nat):Int):Rat)≠0:=fun e=>by
 have:=Rat.intCast_inj.1 (show (((2^k:Nat):Int):Rat)=((0:Int):Rat) from e)
 have:=Nat.pow_pos (n:=k) (show 0<2 by omega)
 omega
theorem nk(a w:Rat)(k j:Nat):ptQ a w (k+1) (2*j)=ptQ a w k j:=by
 unfold ptQ
 congr 2
 have h:=Cf k
 have h2:=Cf (k+1)
 rw[Rat.divInt_eq_div,Rat.divInt_eq_div,Rat.div_def,Rat.div_def]
 have e:(((2^(k+1):Nat):Int):Rat)=(((2^k:Nat):Int):Rat)*2:=by
  rw[show (2:Rat)=((2:Int):Rat) from rfl,←Rat.intCast_mul];congr 1
 have e2:((2*j:Nat):Int)=(j:Int)*2:=by omega
 rw[e,e2,Rat.intCast_mul,show(((2:Int)):Rat)=2 from rfl,Rat.inv_mul_rev]
 have i2:(2:Rat)*2⁻¹=1:=by decide +kernel
 generalize ((((2^k:Nat):Int):Rat))⁻¹=u
 generalize ((j:Int):Rat)=v
 have:v*2*(2⁻¹*u)=v*(2*2⁻¹)*u:=by grind
 rw[this,i2];grind
theorem IH(a w:Rat)(k j:Nat):Rat.divInt 1 2*(ptQ a w k j+ptQ a w k (j+1))=ptQ a w (k+1) (2*j+1):=by
 rw[←nk a w k j,←nk a w k (j+1)]
 unfold ptQ
 rw[Rat.divInt_eq_div,Rat.divInt_eq_div,Rat.divInt_eq_div,Rat.divInt_eq_div,Rat.div_def,Rat.div_def,Rat.div_def,Rat.div_def]
 generalize ((((2^(k+1):Nat):Int):Rat))⁻¹=u
 have e1:((2*j:Nat):Int)=2*(j:Int):=by omega
 have e2:((2*(j+1):Nat):Int)=2*(j:Int)+2:=by omega
 have e3:((2*j+1:Nat):Int)=2*(j:Int)+1:=by omega
 rw[e1,e2,e3,Rat.intCast_add,Rat.intCast_add,Rat.intCast_mul]
 generalize ((j:Int):Rat)=v
 have i2:((1:Int):Rat)*(((2:Int):Rat))⁻¹=1/2:=by decide +kernel
 rw[i2,show((2:Int):Rat)=2 from rfl,show((1:Int):Rat)=1 from rfl]
 grind
theorem J2{w:Rat}(a:Rat)(h:0≤w)(k j:Nat):ptQ a w k j≤ptQ a w k (j+1):=by
 unfold ptQ
 have h2:Rat.divInt (j:Int) ((2^k:Nat):Int)≤Rat.divInt ((j+1:Nat):Int) ((2^k:Nat):Int):=by
  rw[Rat.divInt_eq_div,Rat.divInt_eq_div,Rat.div_def,Rat.div_def]
  refine Rat.mul_le_mul_of_nonneg_right (Rat.intCast_le_intCast.2 (by omega)) (Rat.le_of_lt (Rat.inv_pos.2 ?_))
  have:=Nat.pow_pos (n:=k) (show 0<2 by omega)
  exact Rat.intCast_lt_intCast.2 (show (0:Int)<_ by omega)
 have:=Rat.mul_le_mul_of_nonneg_left h2 h
 grind
theorem Nn(k:Nat){j:Nat}(hj:j≤2^k):wl (j:Int)≤k/32+1:=by
 refine mC ?_
 have h1:2^k<2^(32*(k/32+1)):=Nat.pow_lt_pow_right (by omega) (by omega)
 rw[Nat.pow_mul] at h1
 have h2:(2:Nat)^32=4294967296:=by decide
 rw[h2] at h1
 generalize 4294967296^(k/32+1)=P at h1 ⊢
 omega
theorem vV(a w:Rat){k j:Nat}(hj:j≤2^k):ht (ptQ a w k j)≤ht a+ht w+k/32+4:=by
 have h3:=uk (j:Int) ((2^k:Nat):Int)
 have h6:=Nn k hj
 have h7:=Nn k (Nat.le_refl (2^k))
 have h8:=fw w (Rat.divInt (j:Int) ((2^k:Nat):Int))
 have h9:=mT a (w*Rat.divInt (j:Int) ((2^k:Nat):Int))
 unfold ptQ
 omega
theorem No(a w:Rat)(k j:Nat):ptQ a w k (j+1)-ptQ a w k j=w*Rat.divInt 1 ((2^k:Nat):Int):=by
 unfold ptQ
 rw[Rat.divInt_eq_div,Rat.divInt_eq_div,Rat.divInt_eq_div,Rat.div_def,Rat.div_def,Rat.div_def]
 have e:(((j+1:Nat):Int):Rat)=((j:Int):Rat)+1:=by
  rw[show ((j+1:Nat):Int)=(j:Int)+1 from by omega,Rat.intCast_add];rfl
 have e1:((1:Int):Rat)=1:=rfl
 rw[e,e1]
 generalize ((((2^k:Nat):Int):Rat))⁻¹=u
 grind
theorem uz(a w:Rat):ptQ a w 0 0=a∧ptQ a w 0 1=a+w:=by
 have e0:Rat.divInt ((0:Nat):Int) ((2^0:Nat):Int)=0:=by decide +kernel
 have e1:Rat.divInt ((1:Nat):Int) ((2^0:Nat):Int)=1:=by decide +kernel
 unfold ptQ
 rw[e0,e1]
 constructor<;>grind
def kK(G:List (List Rat))(f:List Rat)(a w:Rat):Nat→Nat→Nat→Option (List (Rat×Rat))
 |0,_,_=>none
 |n+1,k,j=>if fG G (ptQ a w k j)-fG G (ptQ a w k (j+1))=0 then some [] else
  if fG G (ptQ a w k j)-fG G (ptQ a w k (j+1))=1∧evalL f (ptQ a w k j)≠0 then
   (if evalL f (ptQ a w k (j+1))=0 then some [(ptQ a w k (j+1),ptQ a w k (j+1))] else some [(ptQ a w k j,ptQ a w k (j+1))])
  else match kK G f a w n (k+1) (2*j),kK G f a w n (k+1) (2*j+1) with
   |some x,some y=>some (x++y)
   |_,_=>none
theorem Cg{G:List (List Rat)}{f:List Rat}{a w:Rat} : ∀(n k j:Nat) (l:List (Rat×Rat)),kK G f a w n k j=some l→(l.length:Int)=fG G (ptQ a w k j)-fG G (ptQ a w k (j+1))
 |0,_,_,_,h=>by cases h
 |n+1,k,j,l,h=>by
  rw[kK] at h
  by_cases h0:fG G (ptQ a w k j)-fG G (ptQ a w k (j+1))=0
  ·rw[if_pos h0] at h;injection h with h;subst h;exact h0.symm
  ·rw[if_neg h0] at h
   by_cases h1:fG G (ptQ a w k j)-fG G (ptQ a w k (j+1))=1∧evalL f (ptQ a w k j)≠0
   ·rw[if_pos h1] at h
    split at h<;>(injection h with h;subst h;exact h1.1.symm)
   ·rw[if_neg h1] at h
    cases hx:kK G f a w n (k+1) (2*j) with
    |none=>rw[hx] at h;cases h
    |some x =>
     cases hy:kK G f a w n (k+1) (2*j+1) with
     |none=>rw[hx,hy] at h;cases h
     |some y =>
      rw[hx,hy] at h
      injection h with h;subst h
      have i1:=Cg n _ _ _ hx
      have i2:=Cg n _ _ _ hy
      rw[nk] at i1
      rw[show 2*j+1+1=2*(j+1) from by omega,nk] at i2
      rw[List.length_append]
      omega
theorem Un{a w:Rat}(hw:0≤w){k j:Nat} : a≤ptQ a w k j:=by
 unfold ptQ
 have h2:0≤Rat.divInt (j:Int) ((2^k:Nat):Int):=by
  rw[Rat.divInt_eq_div,Rat.div_def]
  refine Rat.mul_nonneg (Rat.intCast_le_intCast.2 (show (0:Int)≤_ by omega)) (Rat.le_of_lt (Rat.inv_pos.2 ?_))
  have:=Nat.pow_pos (n:=k) (show 0<2 by omega)
  exact Rat.intCast_lt_intCast.2 (show (0:Int)<_ by omega)
 have:=Rat.mul_nonneg hw h2
 grind
theorem Sd(a w:Rat)(k:Nat):ptQ a w k (2^k)=a+w:=by
 unfold ptQ
 rw[Rat.divInt_eq_div,Rat.div_def,Rat.mul_inv_cancel _ (Cf k)]
 grind
theorem Ph{a w:Rat}(hw:0≤w){k i j:Nat}(h:i≤j):ptQ a w k i≤ptQ a w k j:=by
 induction h with
 |refl=>exact Rat.le_refl
 |step _ ih=>exact Rat.le_trans ih (J2 a hw k _)
theorem yp{f:List Rat}{a w:Rat}{K:Nat}(hw:0≤w)(hz:aK f=false)(hf:f≠[])(hc:oq f (ak f))
  (hs:∀j,j<2^K→fG (chainF f.length f (ak f)) (ptQ a w K j)-fG (chainF f.length f (ak f)) (ptQ a w K (j+1))≤1∧(evalL f (ptQ a w K j)=0→fG (chainF f.length f (ak f)) (ptQ a w K j)-fG (chainF f.length f (ak f)) (ptQ a w K (j+1))≤0)) :
  ∀(n k j:Nat),n+k=K+1→k≤K→j<2^k→∃l,kK (chainF f.length f (ak f)) f a w n k j=some l
 |0,k,j,hn,hk,hj=>by omega
 |n+1,k,j,hn,hk,hj=>by
  have ha:=nJ hz hf hc (J2 a hw k j)
  rw[kK]
  by_cases h0:fG (chainF f.length f (ak f)) (ptQ a w k j)-fG (chainF f.length f (ak f)) (ptQ a w k (j+1))=0
  ·exact⟨_,if_pos h0⟩
  ·rw[if_neg h0]
   by_cases h1:fG (chainF f.length f (ak f)) (ptQ a w k j)-fG (chainF f.length f (ak f)) (ptQ a w k (j+1))=1∧evalL f (ptQ a w k j)≠0
   ·rw[if_pos h1]
    split
    ·exact⟨_,rfl⟩
    ·exact⟨_,rfl⟩
   ·rw[if_neg h1]
    by_cases Y2:k=K
    ·subst Y2
     obtain⟨s1,s2⟩:=hs j hj
     exact absurd ⟨by omega,fun e=>by have:=s2 e;omega⟩ h1
    ·have hp:2^(k+1)=2*2^k:=by rw[Nat.pow_succ];omega
     obtain⟨x,hx⟩:=yp hw hz hf hc hs n (k+1) (2*j) (by omega) (by omega) (by omega)
     obtain⟨y,hy⟩:=yp hw hz hf hc hs n (k+1) (2*j+1) (by omega) (by omega) (by omega)
     rw[hx,hy]
     exact⟨_,rfl⟩
def GU(m:Rat):Nat→Nat→Nat
 |0,j=>j
 |n+1,j=>if twP j<m then GU m n (j+1) else j
def E3(t:Rat):List Rat→Nat→Nat
 |[],j=>j
 |c::r,j=>E3 t r (GU (1+ab (c/t)) (66-j) j)
def bndP(p:List Rat):Rat:=twP (E3 (bX p) p 0)
theorem DS{m:Rat}(hm:m≤twP 65):∀n j,n+j=66→j≤65→j≤GU m n j∧GU m n j≤65∧m≤twP (GU m n j)
 |0,j,h,hj=>by omega
 |n+1,j,h,hj=>by
  rw[GU]
  by_cases ba:twP j<m
  ·rw[if_pos ba]
   have:j<65:=by
    refine Nat.lt_of_not_le fun hh => ?_
    have:=bx hh
    grind
   obtain⟨a,b,c⟩:=DS hm n (j+1) (by omega) (by omega)
   exact⟨by omega,b,c⟩
  ·rw[if_neg ba]
   exact⟨Nat.le_refl _,hj,by grind⟩
theorem Se{c t:Rat}(hc:ht c≤1)(OH:ht t≤1):1+ab (c/t)≤twP 65:=by
 have h1:=B8 (c/t)
 have h2:=nV c t
 have h3:=bx (show 32*ht (c/t)≤64 by omega)
 have h4:=Ng 64
 have h5:twP 65=twP 64+twP 64:=cF 64
 grind
theorem uA{t:Rat} : ∀(p:List Rat) (j:Nat),(∀c∈p,1+ab (c/t)≤twP 65)→j≤65→j≤E3 t p j∧E3 t p j≤65∧∀c∈p,1+ab (c/t)≤twP (E3 t p j)
 |[],j,_,hj=>⟨Nat.le_refl _,hj,fun c h=>by cases h⟩
 |c::r,j,h,hj=>by
  obtain⟨a1,a2,a3⟩:=DS (h c (List.mem_cons_self ..)) (66-j) j (by omega) hj
  obtain⟨b1,b2,b3⟩:=uA r _ (fun x hx=>h x (List.mem_cons_of_mem _ hx)) a2
  rw[E3]
  refine⟨by omega,b2,fun x hx => ?_⟩
  rcases List.mem_cons.1 hx with rfl|hx
  ·exact Rat.le_trans a3 (bx b1)
  ·exact b3 x hx
theorem tQ{j:Nat}(h:j≤66):ht (twP j)≤3:=by
 unfold twP
 rw[tF]
 refine Nat.max_le.2 ⟨mC ?_,by omega⟩
 have h1:2^j<2^96:=Nat.pow_lt_pow_right (by omega) (by omega)
 have h2:(2:Nat)^96=4294967296^3:=by decide
 rw[h2] at h1
 generalize 2^j=x at h1 ⊢
 generalize 4294967296^3=y at h1 ⊢
 omega
def Bd(p:List Rat):Prop:=Fl 4 p∧∀c∈p,1+ab (c/bX p)≤twP 65
theorem Pj{p:List Rat}(hp:Fl 1 p):ht (bX p)≤1:=by
 unfold bX
 exact ur hp (by omega) _
theorem Fl.bd{p:List Rat}(hp:Fl 1 p):Bd p:=⟨eA hp (by omega),fun c hc=>Se (hp c hc) (Pj hp)⟩
theorem Sf{p:List Rat}(hp:Bd p):ht (bX p)≤4:=by
 unfold bX
 exact ur hp.1 (by omega) _
theorem Np{p:List Rat}(hp:Bd p):ht (bndP p)≤3:=tQ (by have:=(uA p 0 hp.2 (by omega)).2.1;omega)
theorem J3(p:List Rat):0<bndP p:=bU _
theorem Sg(p:List Rat)(hp:Bd p):bndP p≤twP 65:=bx (uA p 0 hp.2 (by omega)).2.1
theorem Qo(q:Rat):(if q<0 then -q else q)=ab q:=by
 rcases bb q with ⟨h1,h2⟩|⟨h1,h2⟩
 ·rw[if_neg (by grind),h2]
 ·rw[if_pos h1,h2]
theorem Pk{p:List Rat}(h0:p≠[]):(p.map aJ)[p.length-1]? = some (aJ (bX p)):=by
 have:=List.length_pos_iff.2 h0
 have e:p[p.length-1]? = some (bX p):=by
  unfold bX
  rw[pf (show p.length-1<p.length by omega)]
 rw[List.getElem?_map,e];rfl
def yq(p:List af):Int:=if py p=0 then (if p.length=0 then 8 else 0) else py p
theorem yr{p:List Rat}(hz:aK p=false)(h0:p≠[])(x:Rat):evalL p x=0↔evalL (bH p) x=0:=by
 obtain⟨f1,f2,f3,⟨u,hu⟩,k,hk,v,hv⟩:=free_spec hz h0
 constructor
 ·intro h
  have h1:=hv x
  rw[h,Rat.mul_zero,BZ] at h1
  refine Classical.byContradiction fun di => ?_
  have:∀n:Nat,evalL (bH p) x^n≠0:=fun n=>by
   induction n with
   |zero=>rw[Rat.pow_zero];decide
   |succ n ih=>rw[Rat.pow_succ];intro e;rcases Rat.mul_eq_zero.1 e with e|e;exact ih e;exact di e
  exact this k h1
 ·intro h;rw[hu,h,Rat.mul_zero]
def II(p:List Rat)(lo hi:Rat):Bool:=bif decide (lo=hi) then decide (evalL (bH p) lo=0) else (decide (sg (evalL (bH p) lo)*sg (evalL (bH p) hi) = -1)&&decide (fG (bA p) lo-fG (bA p) hi=1))
def qK(p:List Rat)(r:ai):Bool:=r.ok&&II p (loG r) (hiG r)
theorem mv{x:Rat} : sg x=0↔x=0:=by rcases bF x with ⟨h1,h2⟩|⟨h1,h2⟩|⟨h1,h2⟩<;>constructor<;>intro h<;>first|exact h1|exact h2|(exfalso;rw[h2] at h;exact absurd h (by decide))|(exfalso;grind)
theorem xo{p q:Rat} : eh p q=0↔p=q:=by
 unfold eh
 by_cases h1:p<q
 ·rw[if_pos h1];constructor
  ·intro h;exact absurd h (by decide)
  ·intro h;subst h;exact absurd h1 Rat.lt_irrefl
 ·rw[if_neg h1]
  by_cases h2:p=q
  ·rw[if_pos h2];exact⟨fun _=>h2,fun _=>rfl⟩
  ·rw[if_neg h2];exact⟨fun h=>absurd h (by decide),fun h=>absurd h h2⟩
theorem uB{a b:Int}{q:Prop}[Decidable q](h:a=b↔q):(a==b)=decide q:=by
 by_cases hq:q
 ·rw[decide_eq_true hq,h.2 hq];simp
 ·rw[decide_eq_false hq]
  have:a≠b:=fun e=>hq (h.1 e)
  simpa using this
theorem pn(x y:Rat):ax (sg x*sg y):=by
 unfold ax
 rcases jS x with h|h|h<;>rcases jS y with k|k|k<;>rw[h,k]<;>decide
theorem dG.E4{h L:Nat}{p:List Rat}(f:dG h L p):Fl 1073741824 (bH p):=eA (f.xl.fl f.fb.2.2.1) f.fb.2.2.2.1
theorem dG.vX{h L:Nat}{p:List Rat}(f:dG h L p):(bH p).length≤10:=by have:=f.pk;have:=f.len;have:=f.hL;omega
theorem dG.Nq{h L:Nat}{p:List Rat}(f:dG h L p):Fl 1073741824 p:=eA (f.ch.fl f.h1) (by have:=f.fb;omega)
theorem dG.xp{h L:Nat}{p:List Rat}(f:dG h L p):p.length≤10:=by have:=f.len;have:=f.hL;omega
namespace J0
theorem Pm{h L:Nat}{p:List Rat}(f:dG h L p):Cp 165 [pq p] .az:=by
 have sM:=check (p.map aJ) (sS (f.ch.fl f.h1) (by have:=f.fb;omega))
 have hp:=List.length_pos_iff.2 f.ne
 rw[f.py,if_pos rfl,if_neg (by rw[bJ];omega)] at sM
 exact sM
theorem value(q:List Rat)(x:Rat)(z:aK q=false)(fl:Fl 1073741824 q)(ln:q.length≤10)(hx:ht x≤1073741824):Cp 239 [pq q,(aJ x).pv] (vI (sg (evalL q x))):=by
 have sO:=Hs.Eval (q.map aJ) (aJ x) (fj z (by omega)) (iz fl) (aZ hx)
 rw[eS,bl] at sO
 have h3:=nh q x 1073741824 fl hx
 have h4:q.length*(2*1073741824+1)≤10*(2*1073741824+1):=Nat.mul_le_mul_right _ ln
 exact tz.e0 _ _ _ none _ sO (QF.Sign (evalL q x) (by omega))
theorem Uo{h L:Nat}{p:List Rat}(f:dG h L p)(h1:Bd p):Cp 150 [pq p] (.aB [(aJ (bndP p)).pv,.az]):=by
 have xj:=um.Of 1 (by unfold ax;omega)
 have e1:((1:Int):Rat)=1:=rfl
 rw[e1] at xj
 have hlen:=f.xp
 have R3:=List.length_pos_iff.2 f.ne
 have zU:=Sf h1
 have htn:=cE f.zp f.ne
 have loop:∀d t j:Nat,p.length-t=d→t≤p.length→j≤65→iD.ah (p.map aJ) t (aJ (twP j)) (.aB [(aJ (twP (E3 (bX p) (p.drop t) j))).pv,.az]):=by
  intro d
  induction d with
  |zero =>
   intro t j hd ht hj
   rw[List.drop_of_length_le (by omega)]
   exact iD.kM _ t _ (by rw[bJ];omega)
  |succ d ih =>
   intro t j hd Y1 hj
   obtain⟨c,hc⟩:∃c,p[t]? = some c:=⟨_,List.getElem?_eq_getElem (by omega)⟩
   have hcm:(p.map aJ)[t]? = some (aJ c):=by rw[List.getElem?_map,hc];rfl
   have zk:=h1.1 c (List.mem_of_getElem? hc)
   have M6:=QF.Div c (bX p) (by omega) (by omega) htn
   have hq:=nV c (bX p)
   have dF:=QF.Abs (c/bX p) (by omega)
   rw[Qo] at dF
   have YY:=h1.2 c (List.mem_of_getElem? hc)
   have hht:ht (ab (c/bX p))≤8:=by
    rw[←Qo];split
    ·rw[vN];omega
    ·omega
   have Oi:=QF.Add 1 (ab (c/bX p)) (by decide) (by omega)
   have hh1:=mT 1 (ab (c/bX p))
   have gb:ht (1:Rat)=1:=by decide
   rw[drop_cons hc,E3]
   have inner:∀n j,n+j=66→j≤65→iD.bK (p.map aJ) t (aJ (twP j)) (aJ (c/bX p)) (.aB [(aJ (twP (E3 (bX p) (p.drop (t+1)) (GU (1+ab (c/bX p)) n j)))).pv,.az]):=by
    intro n
    induction n with
    |zero=>intro j h hj;omega
    |succ n ihn =>
     intro j hn hj
     have Yg:=tQ (j:=j) (by omega)
     have BN:=QF.o9 (twP j) (1+ab (c/bX p)) (by omega) (by omega)
     rw[GU]
     by_cases ba:twP j<1+ab (c/bX p)
     ·rw[if_pos ba]
      have aaq:j<65:=by
       refine Nat.lt_of_not_le fun hh => ?_
       have:=bx hh
       grind
      have Hp:=QF.Add (twP j) (twP j) (by omega) (by omega)
      rw[←cF] at Hp
      refine iD.Ac _ t _ _ _ _ _ _ _ xj dF Oi BN ?_ Hp (ihn (j+1) (by omega) (by omega))
      refine Int.lt_of_not_ge fun hh => ?_
      have:=qp.1 hh
      grind
     ·rw[if_neg ba]
      exact iD.CN _ t _ _ _ _ _ _ xj dF Oi BN (qp.2 (by grind)) (by omega) (ih (t+1) j (by omega) (by omega) hj)
   refine iD.l10 _ t _ _ (p.length-1) _ _ (by rw[bJ];omega) hcm (by rw[bJ];unfold ax;omega) (by rw[bJ];omega) (Pk f.ne) M6 (inner (66-j) j (by omega) hj)
 have:=loop _ 0 0 rfl (by omega) (by omega)
 rw[List.drop_zero,mn] at this
 exact iD.e0 _ _ (Pm f) xj this
theorem yu{h L:Nat}{p:List Rat}(f:dG h L p)(r:ai)(hr:pC 1073741824 r):Cp 166 [pq p,r.pv] (.aB [vB (qK p r),.az]):=by
 have hv:=Sc.Valid r ⟨⟨by omega,by omega⟩,⟨by omega,by omega⟩⟩
 obtain⟨f1,f2,_⟩:=free_spec f.zp f.ne
 cases ho:r.ok with
 |false =>
  rw[ho] at hv
  have:qK p r=false:=by unfold qK;rw[ho,Bool.false_and]
  rw[this]
  exact jf.e0 _ r _ hv rfl
 |true =>
  rw[ho] at hv
  have hm:=Ce ho
  have h1:=sx hr (by omega)
  have h2:=sA hr (by omega)
  have hle:=yo r
  have e0:qK p r=II p (loG r) (hiG r):=by unfold qK;rw[ho,Bool.true_and]
  rw[e0]
  generalize loG r=lo at hm h1 hle ⊢
  generalize hiG r=hi at hm h2 hle ⊢
  subst hm
  have hc:=QF.o9 lo hi (by omega) (by omega)
  unfold II
  by_cases he:lo=hi
  ·rw[decide_eq_true he,cond_true]
   have CV:=value p lo f.zp f.Nq f.xp h1
   have:=jf.e1 _ (gI lo hi) _ _ _ hv rfl hc (by rw[he];exact xo.2 rfl) CV
   rw[uB (q:=evalL (bH p) lo=0) (by rw[mv];exact yr f.zp f.ne lo)] at this
   exact this
  ·rw[decide_eq_false he,cond_false]
   have di:eh lo hi≠0:=fun e=>he (xo.1 e)
   have v1:=value (bH p) lo f1 f.E4 f.vX h1
   have v2:=value (bH p) hi f1 f.E4 f.vX h2
   by_cases hs:sg (evalL (bH p) lo)*sg (evalL (bH p) hi) = -1
   ·rw[decide_eq_true hs,Bool.true_and]
    have:=jf.e3 _ (gI lo hi) _ _ _ _ _ _ none hv rfl hc di (Ay.IG f) v1 v2 (pn _ _) hs (Count f lo hi hle h1 h2)
    rw[uB (q:=fG (bA p) lo-fG (bA p) hi=1) Iff.rfl] at this
    exact this
   ·rw[decide_eq_false hs,Bool.false_and]
    exact jf.e2 _ (gI lo hi) _ _ _ _ _ hv rfl hc di (Ay.IG f) v1 v2 (pn _ _) hs
theorem yv{h L:Nat}{p:List Rat}(f:dG h L p)(r:ai)(hr:pC 1073741824 r):Cp 82 [pq p,r.pv] (.aB [vB (qK p r),.az]):=sL.e0 _ r _ none (Pm f) (yu f r hr)
end J0
namespace Fm
theorem Pm{h L:Nat}{p:List Rat}(f:dG h L p):Cp 83 [pq p] (vI 0):=by
 have sM:=Error (p.map aJ) (sS (f.ch.fl f.h1) (by have:=f.fb;omega))
 have hp:=List.length_pos_iff.2 f.ne
 rw[f.py,if_pos rfl,if_neg (by rw[bJ];omega)] at sM
 exact sM
theorem bad{p:List af}(hp:lh 274877906944 p):Cp 83 [ae p] (vI (yq p)):=Error p hp
theorem Up(q:List Rat)(x:Rat)(fl:Fl 1073741824 q)(ln:q.length≤10)(hx:ht x≤1073741824):Cp 208 [pq q,(aJ x).pv] (aJ (evalL q x)).pv∧Cp 124 [(aJ (evalL q x)).pv] (vI (sg (evalL q x))):=by
 have sO:=Iv.At (q.map aJ) (aJ x) (by rw[bJ];omega) (iz fl) (aZ hx)
 rw[eS,bl] at sO
 have h3:=nh q x 1073741824 fl hx
 have h4:q.length*(2*1073741824+1)≤10*(2*1073741824+1):=Nat.mul_le_mul_right _ ln
 exact⟨sO,QR.Sign (evalL q x) (by omega)⟩
theorem sign{h L:Nat}{p:List Rat}(f:dG h L p)(x:Rat)(hx:ht x≤1073741824):Cp 248 [pq p,(aJ x).pv] (vI (sg (evalL (bH p) x))):=by
 obtain⟨a,b⟩:=Up (bH p) x f.E4 f.vX hx
 exact o7.e0 _ _ _ _ _ _ (CU.IG f) a b
theorem yu{h L:Nat}{p:List Rat}(f:dG h L p)(r:ai)(hr:pC 1073741824 r):Cp 168 [pq p,r.pv] (vB (qK p r)):=by
 have hv:=Lm.Valid r ⟨⟨by omega,by omega⟩,⟨by omega,by omega⟩⟩
 cases ho:r.ok with
 |false =>
  rw[ho] at hv
  have:qK p r=false:=by unfold qK;rw[ho,Bool.false_and]
  rw[this]
  exact ej.e0 _ r _ hv rfl
 |true =>
  rw[ho] at hv
  have hm:=Ce ho
  have h1:=sx hr (by omega)
  have h2:=sA hr (by omega)
  have hle:=yo r
  have e0:qK p r=II p (loG r) (hiG r):=by unfold qK;rw[ho,Bool.true_and]
  rw[e0]
  generalize loG r=lo at hm h1 hle ⊢
  generalize hiG r=hi at hm h2 hle ⊢
  subst hm
  have hc:=QR.o9 lo hi (by omega) (by omega)
  unfold II
  have v1:=sign f lo h1
  have v2:=sign f hi h2
  by_cases he:lo=hi
  ·rw[decide_eq_true he,cond_true]
   have:=ej.e1 _ (gI lo hi) _ _ _ hv rfl hc (by rw[he];exact xo.2 rfl) v1
   rw[uB (q:=evalL (bH p) lo=0) mv] at this
   exact this
  ·rw[decide_eq_false he,cond_false]
   have di:eh lo hi≠0:=fun e=>he (xo.1 e)
   by_cases hs:sg (evalL (bH p) lo)*sg (evalL (bH p) hi) = -1
   ·rw[decide_eq_true hs,Bool.true_and]
    have:=ej.e2 _ (gI lo hi) _ _ _ _ _ hv rfl hc di v1 v2 (pn _ _) hs (count f lo hi h1 h2)
    rw[uB (q:=fG (bA p) lo-fG (bA p) hi=1) Iff.rfl] at this
    exact this
   ·rw[decide_eq_false hs,Bool.false_and]
    exact ej.e3 _ (gI lo hi) _ _ _ _ hv rfl hc di v1 v2 (pn _ _) hs
theorem yv{h L:Nat}{p:List Rat}(f:dG h L p)(r:ai)(hr:pC 1073741824 r):Cp 86 [pq p,r.pv] (.aB [vB (qK p r),vI 0]):=lC.e1 _ r _ _ (Pm f) rfl (yu f r hr)
end Fm
def mkGs(l:List (Rat×Rat)):List ai:=l.map (fun r=>gI r.1 r.2)
theorem Ci(l:List (Rat×Rat)):(mkGs l).length=l.length:=List.length_map ..
theorem GV(l m:List (Rat×Rat)):mkGs (l++m)=mkGs l++mkGs m:=List.map_append ..
def isoK(h L:Nat):Nat:=32*(4*xB (fB h L) (fB h L+1) (L-1))+32*(fB h L+1)+67*L+3+67
def xq(h L:Nat):Prop:=66*(L+2)+1≤64*fB h L∧isoK h L/32+20≤1073741824
instance (h L:Nat):Decidable (xq h L):=by unfold xq;infer_instance
def sC(h L:Nat)(p:List Rat):List (Rat×Rat):=(kK (bA p) (bH p) (-bndP p) (bndP p+bndP p) (isoK h L+1) 0 0).getD []
theorem J4{p:List Rat}(hp:Bd p):bndP p+bndP p≤twP 66∧ht (bndP p+bndP p)≤3:=by
 have h:=(uA p 0 hp.2 (by omega)).2.1
 unfold bndP
 rw[←cF]
 exact⟨bx (by omega),tQ (by omega)⟩
theorem Si(k:Nat):Rat.divInt 1 ((2^k:Nat):Int)*twP k=1:=by
 rw[Rat.divInt_eq_div]
 exact Rat.div_mul_cancel (Cf k)
theorem GW{h L:Nat}{p:List Rat}(f:dG h L p)(h1:Bd p)(ok:xq h L):kK (bA p) (bH p) (-bndP p) (bndP p+bndP p) (isoK h L+1) 0 0=some (sC h L p):=by
 obtain⟨f1,f2,f3,_⟩:=free_spec f.zp f.ne
 have hb:=J3 p
 have hw:0≤bndP p+bndP p:=by grind
 obtain⟨l,hl⟩:=yp (K:=isoK h L) (a := -bndP p) hw f1 f2 f3 (by
  intro j hj
  have w:=No (-bndP p) (bndP p+bndP p) (isoK h L) j
  have k1:=Un (a := -bndP p) hw (k:=isoK h L) (j:=j)
  have k2:=Ph (a := -bndP p) hw (k:=isoK h L) (show j+1≤2^isoK h L by omega)
  rw[Sd] at k2
  have k3:=J2 (-bndP p) hw (isoK h L) j
  have u1:ab (ptQ (-bndP p) (bndP p+bndP p) (isoK h L) j)≤bndP p:=GF (by grind) (by grind)
  have u2:ab (ptQ (-bndP p) (bndP p+bndP p) (isoK h L) (j+1))≤bndP p:=GF (by grind) (by grind)
  refine uw (r:=65) (m:=isoK h L-67) f.fb.2.2.1 f.xm f2 f3 (Rat.le_of_lt hb) (Sg p h1) ok.1 u1 u2 k3 ?_ ?_
  ·have hl:=f.pk
   have Pb:=f.len
   have:(65+2)*(bH p).length≤67*L:=Nat.mul_le_mul_left _ (by omega)
   unfold isoK
   omega
  ·rw[w]
   have e1:isoK h L=(isoK h L-67)+67:=by unfold isoK;omega
   have e2:=Si (isoK h L)
   have e3:twP (isoK h L)=twP (isoK h L-67)*twP 67:=by rw[←fT,←e1]
   have b2:=(J4 h1).1
   have e4:=bx (show 66≤67 by omega)
   generalize Rat.divInt 1 ((2^isoK h L:Nat):Int)=δ at e2 ⊢
   rw[e3] at e2
   have hp:=bU (isoK h L-67)
   generalize twP (isoK h L-67)=T at e2 hp ⊢
   have hδ:0≤δ:=by
    refine Rat.not_lt.1 fun ba => ?_
    have:=Rat.mul_pos hp (bU 67)
    have:=Rat.mul_pos (show 0 < -δ by grind) this
    grind
   have:=Rat.mul_le_mul_of_nonneg_right (Rat.le_trans b2 e4) (Rat.mul_nonneg hδ (Rat.le_of_lt hp))
   grind) (isoK h L+1) 0 0 (by omega) (by omega) (by omega)
 have hl:kK (bA p) (bH p) (-bndP p) (bndP p+bndP p) (isoK h L+1) 0 0=some l:=hl
 unfold sC
 rw[hl];rfl
namespace J0
theorem SY(lo hi:Rat)(h1:ht lo≤1073741824)(h2:ht hi≤1073741824)(hle:lo≤hi):Cp 176 [(gI lo hi).pv] (aJ (Rat.divInt 1 2*(lo+hi))).pv:=by
 have hc:=Sc.clean (gI lo hi) (ou (Nat.le_trans h1 (by omega)) (Nat.le_trans h2 (by omega)))
 rw[nX hle,nY hle] at hc
 have hh:=u7.e0 _ none (QF.Make 1 2 (by unfold ax;omega) (by unfold ax;omega) (by omega))
 have h3:=mT lo hi
 have h4:ht (Rat.divInt 1 2)≤1:=by decide
 exact wV.e0 _ (gI lo hi) _ _ _ hc hh (QF.Add lo hi (by omega) (by omega)) (QF.Mul _ _ (by omega) (by omega))
theorem EK{p:List Rat}{x:Rat} : sg (evalL p x)≠0↔evalL p x≠0:=not_congr mv
theorem E5{h L:Nat}{p:List Rat}(f:dG h L p){a w:Rat}{K:Nat}(hw:0≤w)(hh:ht a+ht w+K/32+4≤1073741824):∀(n k j:Nat) (l:List (Rat×Rat)) (out z:List ai),n+k=K+1→j<2^k→kK (bA p) (bH p) a w n k j=some l→z=out++mkGs l→z.length≤1000000 →
  av bp 152 [(.row 200000 0 out.length 6),(.pv (pq p)),(.pv (N6 (bA p))),(.pv (aJ (ptQ a w k j)).pv),(.pv (aJ (ptQ a w k (j+1))).pv)] [(200000,(.pure ((out:List ai).map ai.cells).flatten))] (.row 0 0 z.length 6) [(0,(.pure ((z:List ai).map ai.cells).flatten))] ∧
  (out=[]→av bp 152 [(.pv .dZ),(.pv (pq p)),(.pv (N6 (bA p))),(.pv (aJ (ptQ a w k j)).pv),(.pv (aJ (ptQ a w k (j+1))).pv)] [] (.row 0 0 z.length 6) [(0,(.pure ((z:List ai).map ai.cells).flatten))])
 |0,k,j,l,out,z,hn,hj,hl,hz,hlen=>by cases hl
 |n+1,k,j,l,out,z,hn,hj,hl,hz,hlen=>by
  have p1:=vV a w (k:=k) (j:=j) (by omega)
  have p2:=vV a w (k:=k) (j:=j+1) (by omega)
  have Y2:k/32≤K/32:=Nat.div_le_div_right (by omega)
  have R8:=f.qx
  have c1:=changes (bA p) (ptQ a w k j) (oy f) (by omega) (by omega)
  have c2:=changes (bA p) (ptQ a w k (j+1)) (oy f) (by omega) (by omega)
  obtain⟨a1,a2⟩:=lH (bA p) (ptQ a w k j)
  obtain⟨b1,b2⟩:=lH (bA p) (ptQ a w k (j+1))
  have hI:ax (fG (bA p) (ptQ a w k j)-fG (bA p) (ptQ a w k (j+1))):=by unfold ax;omega
  have v1:=value p (ptQ a w k j) f.zp f.Nq f.xp (by omega)
  have v2:=value p (ptQ a w k (j+1)) f.zp f.Nq f.xp (by omega)
  have r1:=yr f.zp f.ne (ptQ a w k j)
  have r2:=yr f.zp f.ne (ptQ a w k (j+1))
  have hle:=J2 a hw k j
  have KW:=SY (ptQ a w k j) (ptQ a w k (j+1)) (by omega) (by omega) hle
  rw[IH] at KW
  have PJ:=Sc.GS (ptQ a w k (j+1)) (by omega)
  have z1:=QF.uM (ptQ a w k j) (by omega)
  have z2:=QF.uM (ptQ a w k (j+1)) (by omega)
  have hj1:2*j<2^(k+1):=by rw[Nat.pow_succ];omega
  have FL:2*j+1<2^(k+1):=by rw[Nat.pow_succ];omega
  rw[kK] at hl
  by_cases h0:fG (bA p) (ptQ a w k j)-fG (bA p) (ptQ a w k (j+1))=0
  ·rw[if_pos h0] at hl
   injection hl with hl;subst hl
   have:z=out:=by rw[hz];exact List.append_nil _
   subst this
   refine⟨jn.e0 z _ _ _ _ _ _ c1 c2 hI h0,fun e => ?_⟩
   subst e
   exact jm.e0 _ _ _ _ _ _ c1 c2 hI h0
  ·rw[if_neg h0] at hl
   have Uq:∀l1 l2:List (Rat×Rat),kK (bA p) (bH p) a w n (k+1) (2*j)=some l1→kK (bA p) (bH p) a w n (k+1) (2*j+1)=some l2→z=(out++mkGs l1)++mkGs l2 →
     av bp 152 [(.row 200000 0 out.length 6),(.pv (pq p)),(.pv (N6 (bA p))),(.pv (aJ (ptQ a w k j)).pv),(.pv (aJ (ptQ a w (k+1) (2*j+1))).pv)] [(200000,(.pure ((out:List ai).map ai.cells).flatten))] (.row 0 0 (out++mkGs l1).length 6) [(0,(.pure (((out++mkGs l1):List ai).map ai.cells).flatten))] ∧
     av bp 152 [(.row 200000 0 (out++mkGs l1).length 6),(.pv (pq p)),(.pv (N6 (bA p))),(.pv (aJ (ptQ a w (k+1) (2*j+1))).pv),(.pv (aJ (ptQ a w k (j+1))).pv)] [(200000,(.pure (((out++mkGs l1):List ai).map ai.cells).flatten))] (.row 0 0 z.length 6) [(0,(.pure ((z:List ai).map ai.cells).flatten))]:=by
    intro l1 l2 e1 e2 ez
    have Gi:(out++mkGs l1).length≤1000000:=by
     rw[ez,List.length_append] at hlen;omega
    have i1:=(E5 f hw hh n (k+1) (2*j) l1 out (out++mkGs l1) (by omega) hj1 e1 rfl Gi).1
    have i2:=(E5 f hw hh n (k+1) (2*j+1) l2 (out++mkGs l1) z (by omega) FL e2 ez hlen).1
    rw[nk] at i1
    rw[show 2*j+1+1=2*(j+1) from by omega,nk] at i2
    exact⟨i1,i2⟩
   have split:∀l',(match kK (bA p) (bH p) a w n (k+1) (2*j),kK (bA p) (bH p) a w n (k+1) (2*j+1) with
     |some x,some y=>some (x++y)
     |_,_=>none)=some l'→∃l1 l2,kK (bA p) (bH p) a w n (k+1) (2*j)=some l1∧kK (bA p) (bH p) a w n (k+1) (2*j+1)=some l2∧l'=l1++l2:=by
    intro l' h
    cases hx:kK (bA p) (bH p) a w n (k+1) (2*j) with
    |none=>rw[hx] at h;cases h
    |some x =>
     cases hy:kK (bA p) (bH p) a w n (k+1) (2*j+1) with
     |none=>rw[hx,hy] at h;cases h
     |some y=>rw[hx,hy] at h;injection h with h;exact⟨x,y,rfl,rfl,h.symm⟩
   by_cases h1:fG (bA p) (ptQ a w k j)-fG (bA p) (ptQ a w k (j+1))=1
   ·by_cases h2:evalL (bH p) (ptQ a w k j)=0
    ·rw[if_neg (fun e=>e.2 h2)] at hl
     obtain⟨l1,l2,e1,e2,e3⟩:=split _ hl
     have ez:z=(out++mkGs l1)++mkGs l2:=by rw[hz,e3,GV,List.append_assoc]
     obtain⟨i1,i2⟩:=Uq l1 l2 e1 e2 ez
     refine⟨jn.e3 out _ _ _ _ _ _ _ _ (out++mkGs l1) z c1 c2 hI h0 h1 v1 (mv.2 (r1.2 h2)) KW i1 i2,fun e => ?_⟩
     subst e
     exact jm.e3 _ _ _ _ _ _ _ _ ([]++mkGs l1) z c1 c2 hI h0 h1 v1 (mv.2 (r1.2 h2)) KW i1 i2
    ·rw[if_pos ⟨h1,h2⟩] at hl
     have n1:sg (evalL p (ptQ a w k j))≠0:=EK.2 (fun e=>h2 (r1.1 e))
     by_cases h3:evalL (bH p) (ptQ a w k (j+1))=0
     ·rw[if_pos h3] at hl
      injection hl with hl;subst hl
      have ez:z=out++[gI (ptQ a w k (j+1)) (ptQ a w k (j+1))]:=hz
      subst ez
      refine⟨jn.e1 out _ _ _ _ _ _ _ _ _ c1 c2 hI h0 h1 v1 n1 v2 (mv.2 (r2.2 h3)) PJ (by omega),fun e => ?_⟩
      subst e
      exact jm.e1 _ _ _ _ _ _ _ _ _ c1 c2 hI h0 h1 v1 n1 v2 (mv.2 (r2.2 h3)) PJ (by omega)
     ·rw[if_neg h3] at hl
      injection hl with hl;subst hl
      have n2:sg (evalL p (ptQ a w k (j+1)))≠0:=EK.2 (fun e=>h3 (r2.1 e))
      have ez:z=out++[gI (ptQ a w k j) (ptQ a w k (j+1))]:=hz
      subst ez
      refine⟨jn.e2 out _ _ _ _ _ _ _ _ _ _ c1 c2 hI h0 h1 v1 n1 v2 n2 z1 z2 (by rw[show (⟨aJ (ptQ a w k j),aJ (ptQ a w k (j+1))⟩:ai)=gI (ptQ a w k j) (ptQ a w k (j+1)) from rfl];omega),fun e => ?_⟩
      subst e
      exact jm.e2 _ _ _ _ _ _ _ _ _ _ c1 c2 hI h0 h1 v1 n1 v2 n2 z1 z2 (by rw[show (⟨aJ (ptQ a w k j),aJ (ptQ a w k (j+1))⟩:ai)=gI (ptQ a w k j) (ptQ a w k (j+1)) from rfl];omega)
   ·rw[if_neg (fun e=>h1 e.1)] at hl
    obtain⟨l1,l2,e1,e2,e3⟩:=split _ hl
    have ez:z=(out++mkGs l1)++mkGs l2:=by rw[hz,e3,GV,List.append_assoc]
    obtain⟨i1,i2⟩:=Uq l1 l2 e1 e2 ez
    refine⟨jn.e4 out _ _ _ _ _ _ _ (out++mkGs l1) z c1 c2 hI h0 h1 KW i1 i2,fun e => ?_⟩
    subst e
    exact jm.e4 _ _ _ _ _ _ _ ([]++mkGs l1) z c1 c2 hI h0 h1 KW i1 i2
theorem Sj{h L:Nat}{p:List Rat}(h1:Bd p)(ok:xq h L):ht (-bndP p)+ht (bndP p+bndP p)+isoK h L/32+4≤1073741824:=by
 have a:=Np h1
 have b:=(J4 h1).2
 have c:=ok.2
 rw[vN]
 omega
theorem Pn{h L:Nat}{p:List Rat}(f:dG h L p)(h1:Bd p)(ok:xq h L):((sC h L p).length:Int)=fG (bA p) (-bndP p)-fG (bA p) (bndP p):=by
 have:=Cg _ _ _ _ (GW f h1 ok)
 rwa[(uz _ _).1,(uz _ _).2,show -bndP p+(bndP p+bndP p)=bndP p from by grind] at this
theorem GX{h L:Nat}{p:List Rat}(f:dG h L p)(h1:Bd p)(ok:xq h L):(sC h L p).length≤1000:=by
 have e:=Pn f h1 ok
 have R8:=f.qx
 obtain⟨a1,a2⟩:=lH (bA p) (-bndP p)
 obtain⟨b1,b2⟩:=lH (bA p) (bndP p)
 omega
theorem Po{h L:Nat}{p:List Rat}(f:dG h L p)(h1:Bd p)(ok:xq h L):Cp 75 [pq p] (.aB [dj ai.cells (mkGs (sC h L p)),.az]):=by
 have hb:=J3 p
 have hn:=Np h1
 have hs:=(E5 f (show 0≤bndP p+bndP p by grind) (Sj h1 ok) (isoK h L+1) 0 0 (sC h L p) [] (mkGs (sC h L p)) (by omega) (by omega) (GW f h1 ok) rfl (by rw[Ci];have:=GX f h1 ok;omega)).2 rfl
 rw[(uz _ _).1,(uz _ _).2,show -bndP p+(bndP p+bndP p)=bndP p from by grind] at hs
 exact u9.e0 _ _ _ _ _ (Uo f h1) (chain f) (QF.Neg _ (by omega)) hs
end J0
namespace Fm
theorem given(lo hi:Rat)(h1:ht lo≤68719476736)(h2:ht hi≤68719476736)(hle:lo≤hi):Cp 225 [(gI lo hi).pv] (gI lo hi).pv:=by
 have hv:=Lm.Valid (gI lo hi) (ou h1 h2)
 rw[Cd hle] at hv
 exact ia.e1 _ _ hv rfl
theorem SY(lo hi:Rat)(h1:ht lo≤1073741824)(h2:ht hi≤1073741824)(hle:lo≤hi):Cp 226 [(gI lo hi).pv] (aJ (Rat.divInt 1 2*(lo+hi))).pv:=by
 have h3:=mT lo hi
 have h4:ht (Rat.divInt 1 2)≤1:=by decide
 exact qh.e0 _ (gI lo hi) _ _ _ _ (given lo hi (by omega) (by omega) hle) (QR.Make 1 2 (by unfold ax;omega) (by unfold ax;omega) (by omega)) (QR.Add lo hi (by omega) (by omega)) (QR.Mul _ _ (by omega) (by omega))
theorem Qp(lo hi:Rat)(h1:ht lo≤1073741824)(h2:ht hi≤1073741824)(hle:lo≤hi):Cp 141 [(gI lo hi).pv] (aJ (hi-lo)).pv :=
 n8.e0 _ (gI lo hi) _ (given lo hi (by omega) (by omega) hle) (QR.Sub hi lo (by omega) (by omega))
end Fm
def cu:List Rat→Rat→Rat→Rat×Rat
 |[],_,_=>(0,0)
 |a::r,c,d=>(mr (cu r c d).1 (cu r c d).2 c d+a,mu (cu r c d).1 (cu r c d).2 c d+a)
theorem GY(q:List Rat)(c d:Rat):(cu q c d).1≤(cu q c d).2:=by
 cases q with
 |nil=>exact Rat.le_refl
 |cons a r =>
  have:=GP (cu r c d).1 (cu r c d).2 c d
  show mr _ _ _ _+a≤mu _ _ _ _+a
  grind
theorem Cj{k m:Nat} : ∀(q:List Rat) (c d:Rat),Fl k q→ht c≤m→ht d≤m→ht (cu q c d).1≤q.length*(k+m+1)+1∧ht (cu q c d).2≤q.length*(k+m+1)+1
 |[],c,d,_,_,_=>by
  have:=jA
  exact⟨Nat.le_trans (Nat.le_of_eq this) (by omega),Nat.le_trans (Nat.le_of_eq this) (by omega)⟩
 |a::r,c,d,h,hc,hd=>by
  obtain⟨g1,g2⟩:=Cj r c d (fun x hx=>h x (List.mem_cons_of_mem _ hx)) hc hd
  have ha:=h a (List.mem_cons_self ..)
  have m1:=GQ g1 g2 hc hd
  have m2:=GR g1 g2 hc hd
  have s1:=mT (mr (cu r c d).1 (cu r c d).2 c d) a
  have s2:=mT (mu (cu r c d).1 (cu r c d).2 c d) a
  rw[List.length_cons,Nat.add_mul]
  constructor
  ·show ht (mr _ _ _ _+a)≤_
   omega
  ·show ht (mu _ _ _ _+a)≤_
   omega
theorem KX(c:Rat):(0:Rat)*c=0:=by grind
theorem KY(a c d:Rat):cu [a] c d=(a,a):=by
 show(mr 0 0 c d+a,mu 0 0 c d+a)=(a,a)
 unfold mr mu
 simp only[KX,yf,yg]
 rw[Rat.zero_add]
theorem Nr{k:Nat}{q:List Rat}{c d:Rat}(hl:q.length≤65)(hq:Fl k q)(hc:ht c≤k)(hd:ht d≤k)(hk:k≤67108864)(t:Nat):ht (cu (q.drop t) c d).1≤17179869184∧ht (cu (q.drop t) c d).2≤17179869184:=by
 obtain⟨g1,g2⟩:=Cj (k:=k) (m:=k) (q.drop t) c d (fun x hx=>hq x (List.mem_of_mem_drop hx)) hc hd
 have e:(q.drop t).length*(k+k+1)≤65*(k+k+1):=Nat.mul_le_mul_right _ (by rw[List.length_drop];omega)
 omega
theorem XA{q:List Rat}{n:Nat}{v:Rat}(h:q[n]? = some v):(q.map aJ)[n]? = some (aJ v):=by rw[List.getElem?_map,h];rfl
theorem Iv.XB(q:List Rat)(r:ai)(hc:py (q.map aJ)=0)(hq:Fl 67108864 q)(hr:pC 67108864 r):Cp 209 [ae (q.map aJ),r.pv] (.aB [(gI (cu q (loG r) (hiG r)).1 (cu q (loG r) (hiG r)).2).pv,vI 0]):=by
 have YB:(q.map aJ).length=q.length:=List.length_map ..
 have hl:q.length≤65:=by have:=Aq hc;omega
 have sM:=Iv.Check (q.map aJ) (Ap (fun x hx=>Nat.le_trans (hq x hx) (by omega)))
 rw[hc] at sM
 have r1:=sx hr (by omega)
 have r2:=sA hr (by omega)
 have fr:pC 34359738368 r:=⟨by omega,by omega⟩
 have loop:∀(n:Nat) (s:ai),n≤q.length→s=gI (cu (q.drop n) (loG r) (hiG r)).1 (cu (q.drop n) (loG r) (hiG r)).2→gn.ah (q.map aJ) ((n:Int)-1) r s (.aB [(gI (cu q (loG r) (hiG r)).1 (cu q (loG r) (hiG r)).2).pv,vI 0]):=by
  intro n
  induction n with
  |zero =>
   intro s _ h1
   rw[List.drop_zero] at h1
   rw[←h1]
   exact gn.cR _ _ r s (by omega)
  |succ n ih =>
   intro s hn es
   obtain⟨v,hv⟩:∃v,q[n]? = some v:=⟨_,List.getElem?_eq_getElem (by omega)⟩
   have hvk:=hq v (List.mem_of_getElem? hv)
   have hd:=drop_cons hv
   obtain⟨o1,o2⟩:=Nr hl hq r1 r2 (by omega) (n+1)
   have ho:=GY (q.drop (n+1)) (loG r) (hiG r)
   have m:=Lm.Mul s r (by rw[es];exact ou (by omega) (by omega)) fr
   have SZ:=GQ o1 o2 r1 r2
   have Ur:=GR o1 o2 r1 r2
   rw[es,nX ho,nY ho] at m
   have hm:=GP (cu (q.drop (n+1)) (loG r) (hiG r)).1 (cu (q.drop (n+1)) (loG r) (hiG r)).2 (loG r) (hiG r)
   have a:=Lm.Add (gI (mr (cu (q.drop (n+1)) (loG r) (hiG r)).1 (cu (q.drop (n+1)) (loG r) (hiG r)).2 (loG r) (hiG r)) (mu (cu (q.drop (n+1)) (loG r) (hiG r)).1 (cu (q.drop (n+1)) (loG r) (hiG r)).2 (loG r) (hiG r))) (gI v v) (ou (by omega) (by omega)) (ou (by omega) (by omega))
   rw[nX hm,nY hm,nX Rat.le_refl,nY Rat.le_refl] at a
   rw[←es] at m
   refine gn.l10 _ _ r s _ n (aJ v) _ _ (by omega) m (by omega) (XA hv) (Lm.GS v (by omega)) a (by unfold ax;omega) ?_
   have:=ih _ (by omega) (by rw[hd])
   rwa[show ((n+1:Nat):Int)-1-1=(n:Int)-1 from by omega]
 have:=loop q.length (gI 0 0) (Nat.le_refl _) (by rw[List.drop_of_length_le (Nat.le_refl _)];rfl)
 refine gn.e1 _ r 0 sM rfl (by unfold ax;omega) ?_
 rw[YB];exact this
end Go.Proofs.YtllmkadmohkbfaaGreatDoor.Sym
