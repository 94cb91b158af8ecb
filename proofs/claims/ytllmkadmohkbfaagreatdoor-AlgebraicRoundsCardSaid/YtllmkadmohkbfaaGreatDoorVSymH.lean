/- Lemmas for the statements of this seat. -/
import Derived.Test.YtllmkadmohkbfaaGreatDoorVSymG
namespace Go.Proofs.YtllmkadmohkbfaaGreatDoor.Sym
open Go Go.RowKit
section
variable {P:Program} {T:kL} {a:Act} {w:World} {β:Nat→Option Nat} {L I:Nat→Prop} {aG:aS} {ρ:Operand→Option EV} {h:Hint} {res:nZ}
variable {dst:Option Tmp} {ty:TypeId} {pos:String} {after:Array Edge} {guard:Option (Nat×Bool)}
theorem sX{v:Value}{k:IntKind}{n:Int}(h:Rd I w (.int k n) v):v = .int k n:=by cases h;rfl
theorem uO{α:Type}(xs:List α)(l u i:Nat):((xs.take u).drop l)[i]? = if l+i<u then xs[l+i]? else none:=by
 rw[List.getElem?_drop,List.getElem?_take]
theorem Lx(ao:Option Addr):(ao.map (·.add (0:Nat)))=ao:=by cases ao<;>simp[Addr.add]
theorem QG{xs:List (List PV)}{ao:Option Addr}{n c l u sz:Nat}(hr:Rd I w (.list xs) (.slice ao n c))(X4:l≤u)(hu:u≤xs.length)(lI:∀row∈(xs.take u).drop l,row.length=sz) :
  Rd I w (.list ((xs.take u).drop l)) (.slice (if c=l then ao else ao.map (·.add (l*sz))) (u-l) (c-l)):=by
 by_cases he:l=u
 ·subst he
  have:(xs.take l).drop l=[]:=by simp
  rw[this,Nat.sub_self]
  exact .nil _ _
 ·cases hr with
  |nil=>simp at hu;omega
  |list _ b o _ s f hc hb hs ho hh =>
   have di:c≠l:=by omega
   rw[if_neg di]
   have Tc:s=sz:=by
    have h0:xs[l]? = some xs[l]:=List.getElem?_eq_getElem (by omega)
    rw[←hs l _ h0]
    refine lI _ (List.mem_iff_getElem?.2 ⟨0,?_⟩)
    rw[uO,if_pos (by omega)]
    exact h0
   subst Tc
   have hlen:((xs.take u).drop l).length=u-l:=by simp;omega
   rw[←hlen]
   have Oi:(some (⟨b,o,none⟩:Addr)).map (·.add (l*s))=some ⟨b,o+l*s,none⟩:=by
    simp only[Option.map_some];rw[iZ]
   rw[Oi]
   have get:∀(i:Nat) row,((xs.take u).drop l)[i]? = some row→xs[l+i]? = some row:=by
    intro i row hi
    rw[uO] at hi
    split at hi
    ·exact hi
    ·cases hi
   refine .list _ b (o+l*s) _ s (fun i j=>f (l+i) j) (by rw[hlen];omega) hb (fun i row hi=>hs _ _ (get i row hi)) (fun i j row x hi hj => ?_) (fun i j row x hi hj=>hh _ _ _ _ (get i row hi) hj)
   have:=ho _ j row x (get i row hi) hj
   refine⟨this.1,?_⟩
   rw[show o+l*s+(i*s+j)=o+((l+i)*s+j) from by rw[Nat.add_mul];omega]
   exact this.2
theorem rD{x:Value}{k:IntKind}{i:Int}{n:Nat}{y:Nat}{code:BoundsCode}(hx:x = .int k i)(hi:i=(n:Int))(hn:n≤y):(Instr.sliceBound x y code).run P w = .ok n w:=by
 subst hx;subst hi
 have:(0:Int)≤(n:Int)∧(n:Int)≤(y:Int):=by omega
 simp[Instr.sliceBound,asIntOf,this]
def QH(a:Act)(o:Option Operand)(d n:Nat):Prop:=match o with
 |some y=>∃k,a.eval y = .int k (n:Int)
 |none=>n=d
theorem ja{lo hi:Option Operand}{len cap l u:Nat}(Vx:len≤cap)(X4:l≤u)(xE:u≤len)
  (h1:QH a lo 0 l) (h2:QH a hi len u) :
  (Instr.sliceBounds true len cap (lo.map a.eval) (hi.map a.eval) none).run P w = .ok (l,u,cap) w:=by
 unfold Instr.sliceBounds
 cases lo with
 |none =>
  subst h1
  cases hi with
  |none=>subst h2;rfl
  |some y =>
   obtain⟨k,hy⟩:=h2
   simp only[Option.map_none,Option.map_some,Sem.run_bind,Sem.run_pure,Result.andThen_ok]
   rw[rD hy rfl (by omega)]
   rfl
 |some x =>
  obtain⟨k1,hx⟩:=h1
  cases hi with
  |none =>
   subst h2
   simp only[Option.map_none,Option.map_some,Sem.run_bind,Sem.run_pure,Result.andThen_ok]
   rw[rD hx rfl (by omega)]
   rfl
  |some y =>
   obtain⟨k,hy⟩:=h2
   simp only[Option.map_some,Sem.run_bind,Sem.run_pure,Result.andThen_ok]
   rw[rD hy rfl (by omega)]
   simp only[Result.andThen_ok]
   rw[rD hx rfl (by omega)]
   rfl
theorem Fy{t e:TypeId}{x:Value}{lo hi mx:Option Value}(hu:P.underlying t=some (.slice e)):(Instr.sliceAt t x lo hi mx).run P w=(Instr.slice t x lo hi mx).run P w:=by
 unfold Instr.sliceAt
 rw[Sem.run_bind,run_underlying hu,Result.andThen_ok]
theorem qR{t e:TypeId}{de:TD}{ao:Option Addr}{len cap l u:Nat}{lo hi:Option Operand}(hu:P.underlying t=some (.slice e))(hd:qN P e de)
  (hb:(Instr.sliceBounds true len cap (lo.map a.eval) (hi.map a.eval) none).run P w = .ok (l,u,cap) w) :
  (Instr.sliceAt t (.slice ao len cap) (lo.map a.eval) (hi.map a.eval) none).run P w = .ok (.slice (if cap=l then ao else ao.map (·.add (l*de.size))) (u-l) (cap-l)) w:=by
 rw[Fy hu]
 unfold Instr.slice
 rw[Sem.run_bind,run_underlying hu,Result.andThen_ok]
 simp only[Sem.run_bind,hb,Result.andThen_ok,hd.run_sizeOf w,Sem.run_pure]
theorem Fz{t:TypeId}{x:Operand}{lo hi mx:Option Operand}(hT:nM P T)(hp:zG a w β L I aG ρ)(aq:cf T aG dst (.slice t x lo hi mx) ρ h=some res)(cr:dP res.ob) :
  dq P ⟨dst,.slice t x lo hi mx,ty,pos,after,guard⟩ a β L I w res:=by
 simp only[cf] at aq
 have NW:∀(o:Option Operand) (Oj:Nat) (k:IntKind) (n:Int) (m:Nat),Oc ρ o (.pv (.int .i64 (Oj:Int)))=some (.pv (.int k n))→n=(m:Int)→QH a o Oj m:=by
  intro o Oj k n m ho hn
  cases o with
  |none =>
   injection ho with ho;injection ho with ho;injection ho with _ ho
   show m=Oj
   omega
  |some y=>exact⟨k,by rw[←hn];exact sX (hp.ev y _ ho)⟩
 split at aq
 ·rename_i d e l u xs hd hx
  split at aq
  ·rename_i el hk
   obtain⟨un,hu,_,hf⟩:=(hT t d hd).under
   rw[hk] at hf
   have hf:un = .slice el:=hf
   subst hf
   split at aq
   ·rename_i de r off len sz oB
    cases lI:Nat.beq de.size sz with
    |false=>simp[lI] at aq
    |true =>
     simp only[lI,cond_true] at aq
     have D4:de.size=sz:=Nat.eq_of_beq_eq_true lI
     split at aq
     ·rename_i k1 n1 k2 n2 h1 h2
      simp only[we] at aq
      split at aq
      ·injection aq with aq;subst aq
       obtain⟨g1,cr⟩:=cr.cons
       obtain⟨g2,cr⟩:=cr.cons
       obtain⟨g3,cr⟩:=cr.cons
       obtain⟨g4,g5⟩:=cr.cons
       have g5:u≤len:=g5
       obtain⟨Ta,D5|⟨b,c,oe,hv,Ok,Zg,nn,C4,rE⟩⟩:=hp.ev x _ hx
       ·obtain⟨PI,rfl,hv⟩:=D5
        have Ol:u=0:=by omega
        have FA:l=0:=by omega
        subst Ol;subst FA
        have hb:=ja (P:=P) (w:=w) (a:=a) (lo:=lo) (hi:=hi) (len:=0) (cap:=0) (l:=0) (u:=0) (Nat.le_refl _) g4 g5 (NW lo 0 k1 n1 0 h1 g1) (NW hi 0 k2 n2 0 h2 g2)
        have hr:=qR (ao:=none) hu (hT el de oB) hb
        exact dq.pure (e := .row _ _ _ _) (cM rfl (by rw[hv];exact hr)) ⟨Ta,.inl ⟨PI,rfl,rfl⟩⟩
       have hb:=ja (P:=P) (w:=w) (a:=a) (lo:=lo) (hi:=hi) (len:=len) (cap:=c) (l:=l) (u:=u) Ok g4 g5 (NW lo 0 k1 n1 l h1 g1) (NW hi len k2 n2 u h2 g2)
       have hr:=qR (ao:=some ⟨b,off,none⟩) hu (hT el de oB) hb
       refine dq.pure (e := .row _ _ _ _) (cM rfl (by rw[hv];exact hr)) ⟨Ta,.inr ⟨b,c-l,oe,?_,by omega,Zg,nn,C4,?_⟩⟩
       ·rw[D4]
        rcases g3 with g3|g3
        ·subst g3
         simp only[Nat.zero_mul,Nat.add_zero,Nat.sub_zero]
         rw[Lx];split<;>rfl
        ·rw[if_neg (by omega)]
         simp only[Option.map_some];rw[iZ]
       ·rw[Nat.sub_mul]
        have:l*sz≤c*sz:=Nat.mul_le_mul_right _ (by omega)
        omega
      ·injection aq with aq;subst aq
       obtain⟨g1,cr⟩:=cr.cons
       obtain⟨g2,cr⟩:=cr.cons
       obtain⟨g4,g5⟩:=cr.cons
       have g5:u≤len:=g5
       have g4:l=u:=g4
       subst g4
       obtain⟨Ta,D5|⟨b,c,oe,hv,Ok,_⟩⟩:=hp.ev x _ hx
       ·obtain⟨PI,rfl,hv⟩:=D5
        have FA:l=0:=by omega
        subst FA
        have hb:=ja (P:=P) (w:=w) (a:=a) (lo:=lo) (hi:=hi) (len:=0) (cap:=0) (l:=0) (u:=0) (Nat.le_refl _) (Nat.le_refl _) g5 (NW lo 0 k1 n1 0 h1 g1) (NW hi 0 k2 n2 0 h2 g2)
        have hr:=qR (ao:=none) hu (hT el de oB) hb
        exact dq.pure (e := .pv (.list [])) (cM rfl (by rw[hv];exact hr)) (Rd.nil _ _)
       ·have hb:=ja (P:=P) (w:=w) (a:=a) (lo:=lo) (hi:=hi) (len:=len) (cap:=c) (l:=l) (u:=l) Ok (Nat.le_refl _) g5 (NW lo 0 k1 n1 l h1 g1) (NW hi len k2 n2 l h2 g2)
        have hr:=qR (ao:=some ⟨b,off,none⟩) hu (hT el de oB) hb
        refine dq.pure (e := .pv (.list [])) (cM rfl (by rw[hv];exact hr)) ?_
        rw[Nat.sub_self]
        exact Rd.nil _ _
     ·cases aq
   ·rename_i de ys oB
    split at aq
    ·rename_i k1 n1 k2 n2 h1 h2
     simp only[we] at aq
     injection aq with aq;subst aq
     obtain⟨g1,cr⟩:=cr.cons
     obtain⟨g2,cr⟩:=cr.cons
     obtain⟨g3,cr⟩:=cr.cons
     obtain⟨g4,cr⟩:=cr.cons
     obtain⟨g5,g6⟩:=cr.cons
     subst g5
     have hr:Rd I w (.list ys) (a.eval x):=hp.ev x _ hx
     have b1:=NW lo 0 k1 n1 l h1 g1
     have b2:=NW hi ys.length k2 n2 u h2 g2
     generalize sO:a.eval x=v at hr
     have Td:∃ao c,v = .slice ao ys.length c∧ys.length≤c:=by
      cases hr with
      |nil ao c=>exact⟨ao,c,rfl,Nat.zero_le _⟩
      |list _ b o c s f hc=>exact⟨_,c,rfl,hc⟩
     obtain⟨ao,c,rfl,hc⟩:=Td
     have hb:=ja (P:=P) (w:=w) (a:=a) (lo:=lo) (hi:=hi) (len:=ys.length) (cap:=c) (l:=l) (u:=u) hc g3 g4 b1 b2
     exact dq.pure (e := .pv _) (cM rfl (by rw[sO];exact qR hu (hT el de oB) hb)) (QG hr g3 g4 g6)
    ·cases aq
   ·cases aq
  ·cases aq
 ·cases aq
end
end Go.Proofs.YtllmkadmohkbfaaGreatDoor.Sym
