/- The comparison of algebraic numbers is a total order that agrees with the comparison with fractions. The law AlgebraicOrder returns true for every input, with the tables of numerals of the Go library that the row lists as they are laid. -/
import Derived.Test.YtllmkadmohkbfaaGreatDoorYSymG
namespace Go.Proofs.YtllmkadmohkbfaaGreatDoor.Sym
open Go Go.RowKit
section
variable {P:Program} {T:j0} {a:Act} {w:World} {β:Nat→Option Nat} {L I:Nat→Prop} {aG:aS} {ρ:Operand→Option EV} {h:Hint} {res:mN}
variable {dst:Option Tmp} {ty:TypeId} {pos:String} {after:Array Edge} {guard:Option (Nat×Bool)}
theorem rf{v:Value}{k:IntKind}{n:Int}(h:Rd I w (.int k n) v):v = .int k n:=by cases h;rfl
theorem tf{α:Type}(xs:List α)(l u i:Nat):((xs.take u).drop l)[i]? = if l+i<u then xs[l+i]? else none:=by
 rw[List.getElem?_drop,List.getElem?_take]
theorem Jx(ao:Option Addr):(ao.map (·.add (0:Nat)))=ao:=by cases ao<;>simp[Addr.add]
theorem OF{xs:List (List PV)}{ao:Option Addr}{n c l u sz:Nat}(hr:Rd I w (.list xs) (.slice ao n c))(VR:l≤u)(hu:u≤xs.length)(kF:∀row∈(xs.take u).drop l,row.length=sz) :
  Rd I w (.list ((xs.take u).drop l)) (.slice (if c=l then ao else ao.map (·.add (l*sz))) (u-l) (c-l)):=by
 by_cases he:l=u
 ·subst he
  have:(xs.take l).drop l=[]:=by simp
  rw[this,Nat.sub_self]
  exact .nil _ _
 ·cases hr with
  |nil=>simp at hu;omega
  |list _ b o _ s f hc hb hs ho hh =>
   have df:c≠l:=by omega
   rw[if_neg df]
   have Q5:s=sz:=by
    have h0:xs[l]? = some xs[l]:=List.getElem?_eq_getElem (by omega)
    rw[←hs l _ h0]
    refine kF _ (List.mem_iff_getElem?.2 ⟨0,?_⟩)
    rw[tf,if_pos (by omega)]
    exact h0
   subst Q5
   have hlen:((xs.take u).drop l).length=u-l:=by simp;omega
   rw[←hlen]
   have Mm:(some (⟨b,o,none⟩:Addr)).map (·.add (l*s))=some ⟨b,o+l*s,none⟩:=by
    simp only[Option.map_some];rw[ia]
   rw[Mm]
   have get:∀(i:Nat) row,((xs.take u).drop l)[i]? = some row→xs[l+i]? = some row:=by
    intro i row hi
    rw[tf] at hi
    split at hi
    ·exact hi
    ·cases hi
   refine .list _ b (o+l*s) _ s (fun i j=>f (l+i) j) (by rw[hlen];omega) hb (fun i row hi=>hs _ _ (get i row hi)) (fun i j row x hi hj => ?_) (fun i j row x hi hj=>hh _ _ _ _ (get i row hi) hj)
   have:=ho _ j row x (get i row hi) hj
   refine⟨this.1,?_⟩
   rw[show o+l*s+(i*s+j)=o+((l+i)*s+j) from by rw[Nat.add_mul];omega]
   exact this.2
theorem pX{x:Value}{k:IntKind}{i:Int}{n:Nat}{y:Nat}{code:BoundsCode}(hx:x = .int k i)(hi:i=(n:Int))(hn:n≤y):(Instr.sliceBound x y code).run P w = .ok n w:=by
 subst hx;subst hi
 have:(0:Int)≤(n:Int)∧(n:Int)≤(y:Int):=by omega
 simp[Instr.sliceBound,asIntOf,this]
def OG(a:Act)(o:Option Operand)(d n:Nat):Prop:=match o with
 |some y=>∃k,a.eval y = .int k (n:Int)
 |none=>n=d
theorem ic{lo hi:Option Operand}{len cap l u:Nat}(Tm:len≤cap)(VR:l≤u)(vV:u≤len)
  (h1:OG a lo 0 l) (h2:OG a hi len u) :
  (Instr.sliceBounds true len cap (lo.map a.eval) (hi.map a.eval) none).run P w = .ok (l,u,cap) w:=by
 unfold Instr.sliceBounds
 cases lo with
 |none =>
  subst h1
  cases hi with
  |none=>subst h2;rfl
  |some y =>
   obtain⟨k,hy⟩:=h2
   simp only[Option.map_none,Option.map_some,Sem.run_bind,Sem.run_pure,Result.andThen_ok]
   rw[pX hy rfl (by omega)]
   rfl
 |some x =>
  obtain⟨k1,hx⟩:=h1
  cases hi with
  |none =>
   subst h2
   simp only[Option.map_none,Option.map_some,Sem.run_bind,Sem.run_pure,Result.andThen_ok]
   rw[pX hx rfl (by omega)]
   rfl
  |some y =>
   obtain⟨k,hy⟩:=h2
   simp only[Option.map_some,Sem.run_bind,Sem.run_pure,Result.andThen_ok]
   rw[pX hy rfl (by omega)]
   simp only[Result.andThen_ok]
   rw[pX hx rfl (by omega)]
   rfl
theorem DZ{t e:TypeId}{x:Value}{lo hi mx:Option Value}(hu:P.underlying t=some (.slice e)):(Instr.sliceAt t x lo hi mx).run P w=(Instr.slice t x lo hi mx).run P w:=by
 unfold Instr.sliceAt
 rw[Sem.run_bind,run_underlying hu,Result.andThen_ok]
theorem po{t e:TypeId}{de:TD}{ao:Option Addr}{len cap l u:Nat}{lo hi:Option Operand}(hu:P.underlying t=some (.slice e))(hd:ph P e de)
  (hb:(Instr.sliceBounds true len cap (lo.map a.eval) (hi.map a.eval) none).run P w = .ok (l,u,cap) w) :
  (Instr.sliceAt t (.slice ao len cap) (lo.map a.eval) (hi.map a.eval) none).run P w = .ok (.slice (if cap=l then ao else ao.map (·.add (l*de.size))) (u-l) (cap-l)) w:=by
 rw[DZ hu]
 unfold Instr.slice
 rw[Sem.run_bind,run_underlying hu,Result.andThen_ok]
 simp only[Sem.run_bind,hb,Result.andThen_ok,hd.run_sizeOf w,Sem.run_pure]
theorem D0{t:TypeId}{x:Operand}{lo hi mx:Option Operand}(hT:mC P T)(hp:xR a w β L I aG ρ)(aq:b8 T aG dst (.slice t x lo hi mx) ρ h=some res)(cb:dA res.ob) :
  cY P ⟨dst,.slice t x lo hi mx,ty,pos,after,guard⟩ a β L I w res:=by
 simp only[b8] at aq
 have LV:∀(o:Option Operand) (Mn:Nat) (k:IntKind) (n:Int) (m:Nat),Mi ρ o (.pv (.int .i64 (Mn:Int)))=some (.pv (.int k n))→n=(m:Int)→OG a o Mn m:=by
  intro o Mn k n m ho hn
  cases o with
  |none =>
   injection ho with ho;injection ho with ho;injection ho with _ ho
   show m=Mn
   omega
  |some y=>exact⟨k,by rw[←hn];exact rf (hp.ev y _ ho)⟩
 split at aq
 ·rename_i d e l u xs hd hx
  split at aq
  ·rename_i el hk
   obtain⟨un,hu,_,hf⟩:=(hT t d hd).under
   rw[hk] at hf
   have hf:un = .slice el:=hf
   subst hf
   split at aq
   ·rename_i de r off len sz nk
    cases kF:Nat.beq de.size sz with
    |false=>simp[kF] at aq
    |true =>
     simp only[kF,cond_true] at aq
     have Cx:de.size=sz:=Nat.eq_of_beq_eq_true kF
     split at aq
     ·rename_i k1 n1 k2 n2 h1 h2
      simp only[uF] at aq
      split at aq
      ·injection aq with aq;subst aq
       obtain⟨g1,cb⟩:=cb.cons
       obtain⟨g2,cb⟩:=cb.cons
       obtain⟨g3,cb⟩:=cb.cons
       obtain⟨g4,g5⟩:=cb.cons
       have g5:u≤len:=g5
       obtain⟨Q3,Cy|⟨b,c,mS,hv,Mo,W5,nn,Bw,oX⟩⟩:=hp.ev x _ hx
       ·obtain⟨NO,rfl,hv⟩:=Cy
        have Mp:u=0:=by omega
        have D1:l=0:=by omega
        subst Mp;subst D1
        have hb:=ic (P:=P) (w:=w) (a:=a) (lo:=lo) (hi:=hi) (len:=0) (cap:=0) (l:=0) (u:=0) (Nat.le_refl _) g4 g5 (LV lo 0 k1 n1 0 h1 g1) (LV hi 0 k2 n2 0 h2 g2)
        have hr:=po (ao:=none) hu (hT el de nk) hb
        exact cY.pure (e := .row _ _ _ _) (cD rfl (by rw[hv];exact hr)) ⟨Q3,.inl ⟨NO,rfl,rfl⟩⟩
       have hb:=ic (P:=P) (w:=w) (a:=a) (lo:=lo) (hi:=hi) (len:=len) (cap:=c) (l:=l) (u:=u) Mo g4 g5 (LV lo 0 k1 n1 l h1 g1) (LV hi len k2 n2 u h2 g2)
       have hr:=po (ao:=some ⟨b,off,none⟩) hu (hT el de nk) hb
       refine cY.pure (e := .row _ _ _ _) (cD rfl (by rw[hv];exact hr)) ⟨Q3,.inr ⟨b,c-l,mS,?_,by omega,W5,nn,Bw,?_⟩⟩
       ·rw[Cx]
        rcases g3 with g3|g3
        ·subst g3
         simp only[Nat.zero_mul,Nat.add_zero,Nat.sub_zero]
         rw[Jx];split<;>rfl
        ·rw[if_neg (by omega)]
         simp only[Option.map_some];rw[ia]
       ·rw[Nat.sub_mul]
        have:l*sz≤c*sz:=Nat.mul_le_mul_right _ (by omega)
        omega
      ·injection aq with aq;subst aq
       obtain⟨g1,cb⟩:=cb.cons
       obtain⟨g2,cb⟩:=cb.cons
       obtain⟨g4,g5⟩:=cb.cons
       have g5:u≤len:=g5
       have g4:l=u:=g4
       subst g4
       obtain⟨Q3,Cy|⟨b,c,mS,hv,Mo,_⟩⟩:=hp.ev x _ hx
       ·obtain⟨NO,rfl,hv⟩:=Cy
        have D1:l=0:=by omega
        subst D1
        have hb:=ic (P:=P) (w:=w) (a:=a) (lo:=lo) (hi:=hi) (len:=0) (cap:=0) (l:=0) (u:=0) (Nat.le_refl _) (Nat.le_refl _) g5 (LV lo 0 k1 n1 0 h1 g1) (LV hi 0 k2 n2 0 h2 g2)
        have hr:=po (ao:=none) hu (hT el de nk) hb
        exact cY.pure (e := .pv (.list [])) (cD rfl (by rw[hv];exact hr)) (Rd.nil _ _)
       ·have hb:=ic (P:=P) (w:=w) (a:=a) (lo:=lo) (hi:=hi) (len:=len) (cap:=c) (l:=l) (u:=l) Mo (Nat.le_refl _) g5 (LV lo 0 k1 n1 l h1 g1) (LV hi len k2 n2 l h2 g2)
        have hr:=po (ao:=some ⟨b,off,none⟩) hu (hT el de nk) hb
        refine cY.pure (e := .pv (.list [])) (cD rfl (by rw[hv];exact hr)) ?_
        rw[Nat.sub_self]
        exact Rd.nil _ _
     ·cases aq
   ·rename_i de ys nk
    split at aq
    ·rename_i k1 n1 k2 n2 h1 h2
     simp only[uF] at aq
     injection aq with aq;subst aq
     obtain⟨g1,cb⟩:=cb.cons
     obtain⟨g2,cb⟩:=cb.cons
     obtain⟨g3,cb⟩:=cb.cons
     obtain⟨g4,cb⟩:=cb.cons
     obtain⟨g5,g6⟩:=cb.cons
     subst g5
     have hr:Rd I w (.list ys) (a.eval x):=hp.ev x _ hx
     have b1:=LV lo 0 k1 n1 l h1 g1
     have b2:=LV hi ys.length k2 n2 u h2 g2
     generalize qZ:a.eval x=v at hr
     have Q6:∃ao c,v = .slice ao ys.length c∧ys.length≤c:=by
      cases hr with
      |nil ao c=>exact⟨ao,c,rfl,Nat.zero_le _⟩
      |list _ b o c s f hc=>exact⟨_,c,rfl,hc⟩
     obtain⟨ao,c,rfl,hc⟩:=Q6
     have hb:=ic (P:=P) (w:=w) (a:=a) (lo:=lo) (hi:=hi) (len:=ys.length) (cap:=c) (l:=l) (u:=u) hc g3 g4 b1 b2
     exact cY.pure (e := .pv _) (cD rfl (by rw[qZ];exact po hu (hT el de nk) hb)) (OF hr g3 g4 g6)
    ·cases aq
   ·cases aq
  ·cases aq
 ·cases aq
end
end Go.Proofs.YtllmkadmohkbfaaGreatDoor.Sym
