/- Lemmas for the statements of this seat. -/
import Derived.Test.YtllmkadmohkbfaaGreatDoorWSymG
namespace Go.Proofs.YtllmkadmohkbfaaGreatDoor.Sym
open Go Go.RowKit
section
variable {P:Program} {T:qU} {a:Act} {w:World} {β:Nat→Option Nat} {L I:Nat→Prop} {bp:cq} {ρ:Operand→Option EV} {h:Hint} {res:uC}
variable {dst:Option Tmp} {ty:TypeId} {pos:String} {after:Array Edge} {guard:Option (Nat×Bool)}
theorem zM{v:Value}{k:IntKind}{n:Int}(h:Rd I w (.int k n) v):v = .int k n:=by cases h;rfl
theorem Bl{α:Type}(xs:List α)(l u i:Nat):((xs.take u).drop l)[i]? = if l+i<u then xs[l+i]? else none:=by
 rw[List.getElem?_drop,List.getElem?_take]
theorem Qb(ao:Option Addr):(ao.map (·.add (0:Nat)))=ao:=by cases ao<;>simp[Addr.add]
theorem Ut{xs:List (List PV)}{ao:Option Addr}{n c l u sz:Nat}(hr:Rd I w (.list xs) (.slice ao n c))(hlu:l≤u)(hu:u≤xs.length)(rD:∀row∈(xs.take u).drop l,row.length=sz) :
  Rd I w (.list ((xs.take u).drop l)) (.slice (if c=l then ao else ao.map (·.add (l*sz))) (u-l) (c-l)):=by
 by_cases he:l=u
 ·subst he
  have:(xs.take l).drop l=[]:=by simp
  rw[this,Nat.sub_self]
  exact .nil _ _
 ·cases hr with
  |nil=>simp at hu;omega
  |list _ b o _ s f hc hb hs ho hh =>
   have dk:c≠l:=by omega
   rw[if_neg dk]
   have WJ:s=sz:=by
    have h0:xs[l]? = some xs[l]:=List.getElem?_eq_getElem (by omega)
    rw[←hs l _ h0]
    refine rD _ (List.mem_iff_getElem?.2 ⟨0,?_⟩)
    rw[Bl,if_pos (by omega)]
    exact h0
   subst WJ
   have hlen:((xs.take u).drop l).length=u-l:=by simp;omega
   rw[←hlen]
   have zN:(some (⟨b,o,none⟩:Addr)).map (·.add (l*s))=some ⟨b,o+l*s,none⟩:=by
    simp only[Option.map_some];rw[n9]
   rw[zN]
   have get:∀(i:Nat) row,((xs.take u).drop l)[i]? = some row→xs[l+i]? = some row:=by
    intro i row hi
    rw[Bl] at hi
    split at hi
    ·exact hi
    ·cases hi
   refine .list _ b (o+l*s) _ s (fun i j=>f (l+i) j) (by rw[hlen];omega) hb (fun i row hi=>hs _ _ (get i row hi)) (fun i j row x hi hj => ?_) (fun i j row x hi hj=>hh _ _ _ _ (get i row hi) hj)
   have:=ho _ j row x (get i row hi) hj
   refine⟨this.1,?_⟩
   rw[show o+l*s+(i*s+j)=o+((l+i)*s+j) from by rw[Nat.add_mul];omega]
   exact this.2
theorem ym{x:Value}{k:IntKind}{i:Int}{n:Nat}{y:Nat}{code:BoundsCode}(hx:x = .int k i)(hi:i=(n:Int))(hn:n≤y):(Instr.sliceBound x y code).run P w = .ok n w:=by
 subst hx;subst hi
 have:(0:Int)≤(n:Int)∧(n:Int)≤(y:Int):=by omega
 simp[Instr.sliceBound,asIntOf,this]
def Uu(a:Act)(o:Option Operand)(d n:Nat):Prop:=match o with
 |some y=>∃k,a.eval y = .int k (n:Int)
 |none=>n=d
theorem oa{lo hi:Option Operand}{len cap l u:Nat}(YG:len≤cap)(hlu:l≤u)(DU:u≤len)
  (h1:Uu a lo 0 l) (h2:Uu a hi len u) :
  (Instr.sliceBounds true len cap (lo.map a.eval) (hi.map a.eval) none).run P w = .ok (l,u,cap) w:=by
 unfold Instr.sliceBounds
 cases lo with
 |none =>
  subst h1
  cases hi with
  |none=>subst h2;rfl
  |some y =>
   obtain⟨k,hy⟩:=h2
   simp only[Option.map_none,Option.map_some,Sem.run_bind,Sem.run_pure,Result.andThen_ok]
   rw[ym hy rfl (by omega)]
   rfl
 |some x =>
  obtain⟨k1,hx⟩:=h1
  cases hi with
  |none =>
   subst h2
   simp only[Option.map_none,Option.map_some,Sem.run_bind,Sem.run_pure,Result.andThen_ok]
   rw[ym hx rfl (by omega)]
   rfl
  |some y =>
   obtain⟨k,hy⟩:=h2
   simp only[Option.map_some,Sem.run_bind,Sem.run_pure,Result.andThen_ok]
   rw[ym hy rfl (by omega)]
   simp only[Result.andThen_ok]
   rw[ym hx rfl (by omega)]
   rfl
theorem KH{t e:TypeId}{x:Value}{lo hi mx:Option Value}(hu:P.underlying t=some (.slice e)):(Instr.sliceAt t x lo hi mx).run P w=(Instr.slice t x lo hi mx).run P w:=by
 unfold Instr.sliceAt
 rw[Sem.run_bind,run_underlying hu,Result.andThen_ok]
theorem xC{t e:TypeId}{de:TD}{ao:Option Addr}{len cap l u:Nat}{lo hi:Option Operand}(hu:P.underlying t=some (.slice e))(hd:xy P e de)
  (hb:(Instr.sliceBounds true len cap (lo.map a.eval) (hi.map a.eval) none).run P w = .ok (l,u,cap) w) :
  (Instr.sliceAt t (.slice ao len cap) (lo.map a.eval) (hi.map a.eval) none).run P w = .ok (.slice (if cap=l then ao else ao.map (·.add (l*de.size))) (u-l) (cap-l)) w:=by
 rw[KH hu]
 unfold Instr.slice
 rw[Sem.run_bind,run_underlying hu,Result.andThen_ok]
 simp only[Sem.run_bind,hb,Result.andThen_ok,hd.run_sizeOf w,Sem.run_pure]
theorem KI{t:TypeId}{x:Operand}{lo hi mx:Option Operand}(hT:uj P T)(hp:Fk a w β L I bp ρ)(aH:fF T bp dst (.slice t x lo hi mx) ρ h=some res)(fK:je res.ob) :
  im P ⟨dst,.slice t x lo hi mx,ty,pos,after,guard⟩ a β L I w res:=by
 simp only[fF] at aH
 have R8:∀(o:Option Operand) (Ss:Nat) (k:IntKind) (n:Int) (m:Nat),Sn ρ o (.pv (.int .i64 (Ss:Int)))=some (.pv (.int k n))→n=(m:Int)→Uu a o Ss m:=by
  intro o Ss k n m ho hn
  cases o with
  |none =>
   injection ho with ho;injection ho with ho;injection ho with _ ho
   show m=Ss
   omega
  |some y=>exact⟨k,by rw[←hn];exact zM (hp.ev y _ ho)⟩
 split at aH
 ·rename_i d e l u xs hd hx
  split at aH
  ·rename_i el hk
   obtain⟨un,hu,_,hf⟩:=(hT t d hd).under
   rw[hk] at hf
   have hf:un = .slice el:=hf
   subst hf
   split at aH
   ·rename_i de r off len sz u5
    cases rD:Nat.beq de.size sz with
    |false=>simp[rD] at aH
    |true =>
     simp only[rD,cond_true] at aH
     have Jy:de.size=sz:=Nat.eq_of_beq_eq_true rD
     split at aH
     ·rename_i k1 n1 k2 n2 h1 h2
      simp only[CE] at aH
      split at aH
      ·injection aH with aH;subst aH
       obtain⟨g1,fK⟩:=fK.cons
       obtain⟨g2,fK⟩:=fK.cons
       obtain⟨g3,fK⟩:=fK.cons
       obtain⟨g4,g5⟩:=fK.cons
       have g5:u≤len:=g5
       obtain⟨WH,Jz|⟨b,c,uI,hv,Su,eln,nn,IP,yn⟩⟩:=hp.ev x _ hx
       ·obtain⟨TN,rfl,hv⟩:=Jz
        have O3:u=0:=by omega
        have KJ:l=0:=by omega
        subst O3;subst KJ
        have hb:=oa (P:=P) (w:=w) (a:=a) (lo:=lo) (hi:=hi) (len:=0) (cap:=0) (l:=0) (u:=0) (Nat.le_refl _) g4 g5 (R8 lo 0 k1 n1 0 h1 g1) (R8 hi 0 k2 n2 0 h2 g2)
        have hr:=xC (ao:=none) hu (hT el de u5) hb
        exact im.pure (e := .row _ _ _ _) (gz rfl (by rw[hv];exact hr)) ⟨WH,.inl ⟨TN,rfl,rfl⟩⟩
       have hb:=oa (P:=P) (w:=w) (a:=a) (lo:=lo) (hi:=hi) (len:=len) (cap:=c) (l:=l) (u:=u) Su g4 g5 (R8 lo 0 k1 n1 l h1 g1) (R8 hi len k2 n2 u h2 g2)
       have hr:=xC (ao:=some ⟨b,off,none⟩) hu (hT el de u5) hb
       refine im.pure (e := .row _ _ _ _) (gz rfl (by rw[hv];exact hr)) ⟨WH,.inr ⟨b,c-l,uI,?_,by omega,eln,nn,IP,?_⟩⟩
       ·rw[Jy]
        rcases g3 with g3|g3
        ·subst g3
         simp only[Nat.zero_mul,Nat.add_zero,Nat.sub_zero]
         rw[Qb];split<;>rfl
        ·rw[if_neg (by omega)]
         simp only[Option.map_some];rw[n9]
       ·rw[Nat.sub_mul]
        have:l*sz≤c*sz:=Nat.mul_le_mul_right _ (by omega)
        omega
      ·injection aH with aH;subst aH
       obtain⟨g1,fK⟩:=fK.cons
       obtain⟨g2,fK⟩:=fK.cons
       obtain⟨g4,g5⟩:=fK.cons
       have g5:u≤len:=g5
       have g4:l=u:=g4
       subst g4
       obtain⟨WH,Jz|⟨b,c,uI,hv,Su,_⟩⟩:=hp.ev x _ hx
       ·obtain⟨TN,rfl,hv⟩:=Jz
        have KJ:l=0:=by omega
        subst KJ
        have hb:=oa (P:=P) (w:=w) (a:=a) (lo:=lo) (hi:=hi) (len:=0) (cap:=0) (l:=0) (u:=0) (Nat.le_refl _) (Nat.le_refl _) g5 (R8 lo 0 k1 n1 0 h1 g1) (R8 hi 0 k2 n2 0 h2 g2)
        have hr:=xC (ao:=none) hu (hT el de u5) hb
        exact im.pure (e := .pv (.list [])) (gz rfl (by rw[hv];exact hr)) (Rd.nil _ _)
       ·have hb:=oa (P:=P) (w:=w) (a:=a) (lo:=lo) (hi:=hi) (len:=len) (cap:=c) (l:=l) (u:=l) Su (Nat.le_refl _) g5 (R8 lo 0 k1 n1 l h1 g1) (R8 hi len k2 n2 l h2 g2)
        have hr:=xC (ao:=some ⟨b,off,none⟩) hu (hT el de u5) hb
        refine im.pure (e := .pv (.list [])) (gz rfl (by rw[hv];exact hr)) ?_
        rw[Nat.sub_self]
        exact Rd.nil _ _
     ·cases aH
   ·rename_i de ys u5
    split at aH
    ·rename_i k1 n1 k2 n2 h1 h2
     simp only[CE] at aH
     injection aH with aH;subst aH
     obtain⟨g1,fK⟩:=fK.cons
     obtain⟨g2,fK⟩:=fK.cons
     obtain⟨g3,fK⟩:=fK.cons
     obtain⟨g4,fK⟩:=fK.cons
     obtain⟨g5,g6⟩:=fK.cons
     subst g5
     have hr:Rd I w (.list ys) (a.eval x):=hp.ev x _ hx
     have b1:=R8 lo 0 k1 n1 l h1 g1
     have b2:=R8 hi ys.length k2 n2 u h2 g2
     generalize mD:a.eval x=v at hr
     have WK:∃ao c,v = .slice ao ys.length c∧ys.length≤c:=by
      cases hr with
      |nil ao c=>exact⟨ao,c,rfl,Nat.zero_le _⟩
      |list _ b o c s f hc=>exact⟨_,c,rfl,hc⟩
     obtain⟨ao,c,rfl,hc⟩:=WK
     have hb:=oa (P:=P) (w:=w) (a:=a) (lo:=lo) (hi:=hi) (len:=ys.length) (cap:=c) (l:=l) (u:=u) hc g3 g4 b1 b2
     exact im.pure (e := .pv _) (gz rfl (by rw[mD];exact xC hu (hT el de u5) hb)) (Ut hr g3 g4 g6)
    ·cases aH
   ·cases aH
  ·cases aH
 ·cases aH
end
end Go.Proofs.YtllmkadmohkbfaaGreatDoor.Sym
