/- Lemmas for the statements of this seat. -/
import Derived.Test.YtfjfekodeplcoaaGreatWSymG
namespace Go.Proofs.YtfjfekodeplcoaaGreat.Sym
open Go Go.RowKit
section
variable {P:Program} {T:jZ} {a:Act} {w:World} {β:Nat→Option Nat} {L I:Nat→Prop} {sto:aN} {ρ:Operand→Option EV} {h:Hint} {res:mW}
variable {dst:Option Tmp} {ty:TypeId} {pos:String} {after:Array Edge} {guard:Option (Nat×Bool)}
theorem ql{v:Value}{k:IntKind}{n:Int}(h:Rd I w (.int k n) v):v = .int k n:=by cases h;rfl
theorem sL{α:Type}(xs:List α)(l u i:Nat):((xs.take u).drop l)[i]? = if l+i<u then xs[l+i]? else none:=by
 rw[List.getElem?_drop,List.getElem?_take]
theorem G8(ao:Option Addr):(ao.map (·.add (0:Nat)))=ao:=by cases ao<;>simp[Addr.add]
theorem LB{xs:List (List PV)}{ao:Option Addr}{n c l u sz:Nat}(hr:Rd I w (.list xs) (.slice ao n c))(Sb:l≤u)(hu:u≤xs.length)(jo:∀row∈(xs.take u).drop l,row.length=sz) :
  Rd I w (.list ((xs.take u).drop l)) (.slice (if c=l then ao else ao.map (·.add (l*sz))) (u-l) (c-l)):=by
 by_cases he:l=u
 ·subst he
  have:(xs.take l).drop l=[]:=by simp
  rw[this,Nat.sub_self]
  exact .nil _ _
 ·cases hr with
  |nil=>simp at hu;omega
  |list _ b o _ s f hc hb hs ho hh =>
   have iN:c≠l:=by omega
   rw[if_neg iN]
   have NO:s=sz:=by
    have h0:xs[l]? = some xs[l]:=List.getElem?_eq_getElem (by omega)
    rw[←hs l _ h0]
    refine jo _ (List.mem_iff_getElem?.2 ⟨0,?_⟩)
    rw[sL,if_pos (by omega)]
    exact h0
   subst NO
   have hlen:((xs.take u).drop l).length=u-l:=by simp;omega
   rw[←hlen]
   have PX:(some (⟨b,o,none⟩:Addr)).map (·.add (l*s))=some ⟨b,o+l*s,none⟩:=by
    simp only[Option.map_some];rw[gk]
   rw[PX]
   have get:∀(i:Nat) row,((xs.take u).drop l)[i]? = some row→xs[l+i]? = some row:=by
    intro i row hi
    rw[sL] at hi
    split at hi
    ·exact hi
    ·cases hi
   refine .list _ b (o+l*s) _ s (fun i j=>f (l+i) j) (by rw[hlen];omega) hb (fun i row hi=>hs _ _ (get i row hi)) (fun i j row x hi hj => ?_) (fun i j row x hi hj=>hh _ _ _ _ (get i row hi) hj)
   have:=ho _ j row x (get i row hi) hj
   refine⟨this.1,?_⟩
   rw[show o+l*s+(i*s+j)=o+((l+i)*s+j) from by rw[Nat.add_mul];omega]
   exact this.2
theorem qm{x:Value}{k:IntKind}{i:Int}{n:Nat}{y:Nat}{code:BoundsCode}(hx:x = .int k i)(hi:i=(n:Int))(hn:n≤y):(Instr.sliceBound x y code).run P w = .ok n w:=by
 subst hx;subst hi
 have:(0:Int)≤(n:Int)∧(n:Int)≤(y:Int):=by omega
 simp[Instr.sliceBound,asIntOf,this]
def LC(a:Act)(o:Option Operand)(d n:Nat):Prop:=match o with
 |some y=>∃k,a.eval y = .int k (n:Int)
 |none=>n=d
theorem il{lo hi:Option Operand}{len cap l u:Nat}(NP:len≤cap)(Sb:l≤u)(u5:u≤len)
  (h1:LC a lo 0 l) (h2:LC a hi len u) :
  (Instr.sliceBounds true len cap (lo.map a.eval) (hi.map a.eval) none).run P w = .ok (l,u,cap) w:=by
 unfold Instr.sliceBounds
 cases lo with
 |none =>
  subst h1
  cases hi with
  |none=>subst h2;rfl
  |some y =>
   obtain⟨k,hy⟩:=h2
   simp only[Option.map_none,Option.map_some,Sem.run_bind,Sem.run_pure,Result.andThen_ok]
   rw[qm hy rfl (by omega)]
   rfl
 |some x =>
  obtain⟨k1,hx⟩:=h1
  cases hi with
  |none =>
   subst h2
   simp only[Option.map_none,Option.map_some,Sem.run_bind,Sem.run_pure,Result.andThen_ok]
   rw[qm hx rfl (by omega)]
   rfl
  |some y =>
   obtain⟨k,hy⟩:=h2
   simp only[Option.map_some,Sem.run_bind,Sem.run_pure,Result.andThen_ok]
   rw[qm hy rfl (by omega)]
   simp only[Result.andThen_ok]
   rw[qm hx rfl (by omega)]
   rfl
theorem B8{t e:TypeId}{x:Value}{lo hi mx:Option Value}(hu:P.underlying t=some (.slice e)):(Instr.sliceAt t x lo hi mx).run P w=(Instr.slice t x lo hi mx).run P w:=by
 unfold Instr.sliceAt
 rw[Sem.run_bind,run_underlying hu,Result.andThen_ok]
theorem pH{t e:TypeId}{de:TD}{ao:Option Addr}{len cap l u:Nat}{lo hi:Option Operand}(hu:P.underlying t=some (.slice e))(hd:oy P e de)
  (hb:(Instr.sliceBounds true len cap (lo.map a.eval) (hi.map a.eval) none).run P w = .ok (l,u,cap) w) :
  (Instr.sliceAt t (.slice ao len cap) (lo.map a.eval) (hi.map a.eval) none).run P w = .ok (.slice (if cap=l then ao else ao.map (·.add (l*de.size))) (u-l) (cap-l)) w:=by
 rw[B8 hu]
 unfold Instr.slice
 rw[Sem.run_bind,run_underlying hu,Result.andThen_ok]
 simp only[Sem.run_bind,hb,Result.andThen_ok,hd.run_sizeOf w,Sem.run_pure]
theorem B9{t:TypeId}{x:Operand}{lo hi mx:Option Operand}(hT:mN P T)(hp:wD a w β L I sto ρ)(ax:b9 T sto dst (.slice t x lo hi mx) ρ h=some res)(cd:dw res.ob) :
  cY P ⟨dst,.slice t x lo hi mx,ty,pos,after,guard⟩ a β L I w res:=by
 simp only[b9] at ax
 have Je:∀(o:Option Operand) (JE:Nat) (k:IntKind) (n:Int) (m:Nat),JA ρ o (.pv (.int .i64 (JE:Int)))=some (.pv (.int k n))→n=(m:Int)→LC a o JE m:=by
  intro o JE k n m ho hn
  cases o with
  |none =>
   injection ho with ho;injection ho with ho;injection ho with _ ho
   show m=JE
   omega
  |some y=>exact⟨k,by rw[←hn];exact ql (hp.ev y _ ho)⟩
 split at ax
 ·rename_i d e l u xs hd hx
  split at ax
  ·rename_i el hk
   obtain⟨un,hu,_,hf⟩:=(hT t d hd).under
   rw[hk] at hf
   have hf:un = .slice el:=hf
   subst hf
   split at ax
   ·rename_i de r off len sz oA
    cases jo:Nat.beq de.size sz with
    |false=>simp[jo] at ax
    |true =>
     simp only[jo,cond_true] at ax
     have AN:de.size=sz:=Nat.eq_of_beq_eq_true jo
     split at ax
     ·rename_i k1 n1 k2 n2 h1 h2
      simp only[tX] at ax
      split at ax
      ·injection ax with ax;subst ax
       obtain⟨g1,cd⟩:=cd.cons
       obtain⟨g2,cd⟩:=cd.cons
       obtain⟨g3,cd⟩:=cd.cons
       obtain⟨g4,g5⟩:=cd.cons
       have g5:u≤len:=g5
       obtain⟨NM,AO|⟨b,c,mX,hv,JF,Th,nn,xF,wF⟩⟩:=hp.ev x _ hx
       ·obtain⟨Jf,rfl,hv⟩:=AO
        have DO:u=0:=by omega
        have Ca:l=0:=by omega
        subst DO;subst Ca
        have hb:=il (P:=P) (w:=w) (a:=a) (lo:=lo) (hi:=hi) (len:=0) (cap:=0) (l:=0) (u:=0) (Nat.le_refl _) g4 g5 (Je lo 0 k1 n1 0 h1 g1) (Je hi 0 k2 n2 0 h2 g2)
        have hr:=pH (ao:=none) hu (hT el de oA) hb
        exact cY.pure (e := .row _ _ _ _) (ct rfl (by rw[hv];exact hr)) ⟨NM,.inl ⟨Jf,rfl,rfl⟩⟩
       have hb:=il (P:=P) (w:=w) (a:=a) (lo:=lo) (hi:=hi) (len:=len) (cap:=c) (l:=l) (u:=u) JF g4 g5 (Je lo 0 k1 n1 l h1 g1) (Je hi len k2 n2 u h2 g2)
       have hr:=pH (ao:=some ⟨b,off,none⟩) hu (hT el de oA) hb
       refine cY.pure (e := .row _ _ _ _) (ct rfl (by rw[hv];exact hr)) ⟨NM,.inr ⟨b,c-l,mX,?_,by omega,Th,nn,xF,?_⟩⟩
       ·rw[AN]
        rcases g3 with g3|g3
        ·subst g3
         simp only[Nat.zero_mul,Nat.add_zero,Nat.sub_zero]
         rw[G8];split<;>rfl
        ·rw[if_neg (by omega)]
         simp only[Option.map_some];rw[gk]
       ·rw[Nat.sub_mul]
        have:l*sz≤c*sz:=Nat.mul_le_mul_right _ (by omega)
        omega
      ·injection ax with ax;subst ax
       obtain⟨g1,cd⟩:=cd.cons
       obtain⟨g2,cd⟩:=cd.cons
       obtain⟨g4,g5⟩:=cd.cons
       have g5:u≤len:=g5
       have g4:l=u:=g4
       subst g4
       obtain⟨NM,AO|⟨b,c,mX,hv,JF,_⟩⟩:=hp.ev x _ hx
       ·obtain⟨Jf,rfl,hv⟩:=AO
        have Ca:l=0:=by omega
        subst Ca
        have hb:=il (P:=P) (w:=w) (a:=a) (lo:=lo) (hi:=hi) (len:=0) (cap:=0) (l:=0) (u:=0) (Nat.le_refl _) (Nat.le_refl _) g5 (Je lo 0 k1 n1 0 h1 g1) (Je hi 0 k2 n2 0 h2 g2)
        have hr:=pH (ao:=none) hu (hT el de oA) hb
        exact cY.pure (e := .pv (.list [])) (ct rfl (by rw[hv];exact hr)) (Rd.nil _ _)
       ·have hb:=il (P:=P) (w:=w) (a:=a) (lo:=lo) (hi:=hi) (len:=len) (cap:=c) (l:=l) (u:=l) JF (Nat.le_refl _) g5 (Je lo 0 k1 n1 l h1 g1) (Je hi len k2 n2 l h2 g2)
        have hr:=pH (ao:=some ⟨b,off,none⟩) hu (hT el de oA) hb
        refine cY.pure (e := .pv (.list [])) (ct rfl (by rw[hv];exact hr)) ?_
        rw[Nat.sub_self]
        exact Rd.nil _ _
     ·cases ax
   ·rename_i de ys oA
    split at ax
    ·rename_i k1 n1 k2 n2 h1 h2
     simp only[tX] at ax
     injection ax with ax;subst ax
     obtain⟨g1,cd⟩:=cd.cons
     obtain⟨g2,cd⟩:=cd.cons
     obtain⟨g3,cd⟩:=cd.cons
     obtain⟨g4,cd⟩:=cd.cons
     obtain⟨g5,g6⟩:=cd.cons
     subst g5
     have hr:Rd I w (.list ys) (a.eval x):=hp.ev x _ hx
     have b1:=Je lo 0 k1 n1 l h1 g1
     have b2:=Je hi ys.length k2 n2 u h2 g2
     generalize xA:a.eval x=v at hr
     have NQ:∃ao c,v = .slice ao ys.length c∧ys.length≤c:=by
      cases hr with
      |nil ao c=>exact⟨ao,c,rfl,Nat.zero_le _⟩
      |list _ b o c s f hc=>exact⟨_,c,rfl,hc⟩
     obtain⟨ao,c,rfl,hc⟩:=NQ
     have hb:=il (P:=P) (w:=w) (a:=a) (lo:=lo) (hi:=hi) (len:=ys.length) (cap:=c) (l:=l) (u:=u) hc g3 g4 b1 b2
     exact cY.pure (e := .pv _) (ct rfl (by rw[xA];exact pH hu (hT el de oA) hb)) (LB hr g3 g4 g6)
    ·cases ax
   ·cases ax
  ·cases ax
 ·cases ax
end
end Go.Proofs.YtfjfekodeplcoaaGreat.Sym
