/- Bezout and Accepts of the program answer as the reference does. -/
import Derived.Test.YtboilcfohmmpbaaGreatDoorYSymG
namespace Go.Proofs.YtboilcfohmmpbaaGreatDoor.Sym
open Go Go.RowKit
section
variable {P:Program} {T:Tab} {a:Act} {w:World} {β:Nat→Option Nat} {L I:Nat→Prop} {sto:Sto} {ρ:Operand→Option EV} {h:Hint} {res:OpRes}
variable {dst:Option Tmp} {ty:TypeId} {pos:String} {after:Array Edge} {guard:Option (Nat×Bool)}
theorem rd_int{v:Value}{k:IntKind}{n:Int}(h:Rd I w (.int k n) v):v = .int k n:=by cases h;rfl
theorem drop_take_get{α:Type}(xs:List α)(l u i:Nat):((xs.take u).drop l)[i]? = if l+i<u then xs[l+i]? else none:=by
 rw[List.getElem?_drop,List.getElem?_take]
theorem add_none(ao:Option Addr):(ao.map (·.add (0:Nat)))=ao:=by cases ao<;>simp[Addr.add]
theorem rd_cut{xs:List (List PV)}{ao:Option Addr}{n c l u sz:Nat}(hr:Rd I w (.list xs) (.slice ao n c))(hlu:l≤u)(hu:u≤xs.length)(hsz:∀row∈(xs.take u).drop l,row.length=sz) :
  Rd I w (.list ((xs.take u).drop l)) (.slice (if c=l then ao else ao.map (·.add (l*sz))) (u-l) (c-l)):=by
 by_cases he:l=u
 ·subst he
  have:(xs.take l).drop l=[]:=by simp
  rw[this,Nat.sub_self]
  exact .nil _ _
 ·cases hr with
  |nil=>simp at hu;omega
  |list _ b o _ s f hc hb hs ho hh =>
   have hne:c≠l:=by omega
   rw[if_neg hne]
   have hss:s=sz:=by
    have h0:xs[l]? = some xs[l]:=List.getElem?_eq_getElem (by omega)
    rw[←hs l _ h0]
    refine hsz _ (List.mem_iff_getElem?.2 ⟨0,?_⟩)
    rw[drop_take_get,if_pos (by omega)]
    exact h0
   subst hss
   have hlen:((xs.take u).drop l).length=u-l:=by simp;omega
   rw[←hlen]
   have hadd:(some (⟨b,o,none⟩:Addr)).map (·.add (l*s))=some ⟨b,o+l*s,none⟩:=by
    simp only[Option.map_some];rw[add_addr]
   rw[hadd]
   have get:∀(i:Nat) row,((xs.take u).drop l)[i]? = some row→xs[l+i]? = some row:=by
    intro i row hi
    rw[drop_take_get] at hi
    split at hi
    ·exact hi
    ·cases hi
   refine .list _ b (o+l*s) _ s (fun i j=>f (l+i) j) (by rw[hlen];omega) hb (fun i row hi=>hs _ _ (get i row hi)) (fun i j row x hi hj => ?_) (fun i j row x hi hj=>hh _ _ _ _ (get i row hi) hj)
   have:=ho _ j row x (get i row hi) hj
   refine⟨this.1,?_⟩
   rw[show o+l*s+(i*s+j)=o+((l+i)*s+j) from by rw[Nat.add_mul];omega]
   exact this.2
theorem run_bounds{x:Value}{k:IntKind}{i:Int}{n:Nat}{y:Nat}{code:BoundsCode}(hx:x = .int k i)(hi:i=(n:Int))(hn:n≤y):(Instr.sliceBound x y code).run P w = .ok n w:=by
 subst hx;subst hi
 have:(0:Int)≤(n:Int)∧(n:Int)≤(y:Int):=by omega
 simp[Instr.sliceBound,asIntOf,this]
def bndV(a:Act)(o:Option Operand)(d n:Nat):Prop:=match o with
 |some y=>∃k,a.eval y = .int k (n:Int)
 |none=>n=d
theorem run_sliceBounds{lo hi:Option Operand}{len cap l u:Nat}(hcap:len≤cap)(hlu:l≤u)(hul:u≤len)
  (h1:bndV a lo 0 l) (h2:bndV a hi len u) :
  (Instr.sliceBounds true len cap (lo.map a.eval) (hi.map a.eval) none).run P w = .ok (l,u,cap) w:=by
 unfold Instr.sliceBounds
 cases lo with
 |none =>
  subst h1
  cases hi with
  |none=>subst h2;rfl
  |some y =>
   obtain⟨k,hy⟩:=h2
   simp only[Option.map_none,Option.map_some,Sem.run_bind,Sem.run_pure,Result.andThen_ok]
   rw[run_bounds hy rfl (by omega)]
   rfl
 |some x =>
  obtain⟨k1,hx⟩:=h1
  cases hi with
  |none =>
   subst h2
   simp only[Option.map_none,Option.map_some,Sem.run_bind,Sem.run_pure,Result.andThen_ok]
   rw[run_bounds hx rfl (by omega)]
   rfl
  |some y =>
   obtain⟨k,hy⟩:=h2
   simp only[Option.map_some,Sem.run_bind,Sem.run_pure,Result.andThen_ok]
   rw[run_bounds hy rfl (by omega)]
   simp only[Result.andThen_ok]
   rw[run_bounds hx rfl (by omega)]
   rfl
theorem run_sliceAt{t e:TypeId}{x:Value}{lo hi mx:Option Value}(hu:P.underlying t=some (.slice e)):(Instr.sliceAt t x lo hi mx).run P w=(Instr.slice t x lo hi mx).run P w:=by
 unfold Instr.sliceAt
 rw[Sem.run_bind,run_underlying hu,Result.andThen_ok]
theorem run_slice{t e:TypeId}{de:TD}{ao:Option Addr}{len cap l u:Nat}{lo hi:Option Operand}(hu:P.underlying t=some (.slice e))(hd:TDok P e de)
  (hb:(Instr.sliceBounds true len cap (lo.map a.eval) (hi.map a.eval) none).run P w = .ok (l,u,cap) w) :
  (Instr.sliceAt t (.slice ao len cap) (lo.map a.eval) (hi.map a.eval) none).run P w = .ok (.slice (if cap=l then ao else ao.map (·.add (l*de.size))) (u-l) (cap-l)) w:=by
 rw[run_sliceAt hu]
 unfold Instr.slice
 rw[Sem.run_bind,run_underlying hu,Result.andThen_ok]
 simp only[Sem.run_bind,hb,Result.andThen_ok,hd.run_sizeOf w,Sem.run_pure]
theorem opRun_slice{t:TypeId}{x:Operand}{lo hi mx:Option Operand}(hT:TOk P T)(hp:Pre a w β L I sto ρ)(hrun:opRun T sto dst (.slice t x lo hi mx) ρ h=some res)(hob:Alls res.ob) :
  Does P ⟨dst,.slice t x lo hi mx,ty,pos,after,guard⟩ a β L I w res:=by
 simp only[opRun] at hrun
 have evl:∀(o:Option Operand) (dflt:Nat) (k:IntKind) (n:Int) (m:Nat),orD ρ o (.pv (.int .i64 (dflt:Int)))=some (.pv (.int k n))→n=(m:Int)→bndV a o dflt m:=by
  intro o dflt k n m ho hn
  cases o with
  |none =>
   injection ho with ho;injection ho with ho;injection ho with _ ho
   show m=dflt
   omega
  |some y=>exact⟨k,by rw[←hn];exact rd_int (hp.ev y _ ho)⟩
 split at hrun
 ·rename_i d e l u xs hd hx
  split at hrun
  ·rename_i el hk
   obtain⟨un,hu,_,hf⟩:=(hT t d hd).under
   rw[hk] at hf
   have hf:un = .slice el:=hf
   subst hf
   split at hrun
   ·rename_i de r off len sz hde
    cases hsz:Nat.beq de.size sz with
    |false=>simp[hsz] at hrun
    |true =>
     simp only[hsz,cond_true] at hrun
     have hsz':de.size=sz:=Nat.eq_of_beq_eq_true hsz
     split at hrun
     ·rename_i k1 n1 k2 n2 h1 h2
      simp only[sliceRes] at hrun
      split at hrun
      ·injection hrun with hrun;subst hrun
       obtain⟨g1,hob⟩:=hob.cons
       obtain⟨g2,hob⟩:=hob.cons
       obtain⟨g3,hob⟩:=hob.cons
       obtain⟨g4,g5⟩:=hob.cons
       have g5:u≤len:=g5
       obtain⟨hLr,hnil|⟨b,c,hbr,hv,hlc,eln,nn,hsh,hfit⟩⟩:=hp.ev x _ hx
       ·obtain⟨hbn,rfl,hv⟩:=hnil
        have hu0:u=0:=by omega
        have hl0:l=0:=by omega
        subst hu0;subst hl0
        have hb:=run_sliceBounds (P:=P) (w:=w) (a:=a) (lo:=lo) (hi:=hi) (len:=0) (cap:=0) (l:=0) (u:=0) (Nat.le_refl _) g4 g5 (evl lo 0 k1 n1 0 h1 g1) (evl hi 0 k2 n2 0 h2 g2)
        have hr:=run_slice (ao:=none) hu (hT el de hde) hb
        exact Does.pure (e := .row _ _ _ _) (exec_ok rfl (by rw[hv];exact hr)) ⟨hLr,.inl ⟨hbn,rfl,rfl⟩⟩
       have hb:=run_sliceBounds (P:=P) (w:=w) (a:=a) (lo:=lo) (hi:=hi) (len:=len) (cap:=c) (l:=l) (u:=u) hlc g4 g5 (evl lo 0 k1 n1 l h1 g1) (evl hi len k2 n2 u h2 g2)
       have hr:=run_slice (ao:=some ⟨b,off,none⟩) hu (hT el de hde) hb
       refine Does.pure (e := .row _ _ _ _) (exec_ok rfl (by rw[hv];exact hr)) ⟨hLr,.inr ⟨b,c-l,hbr,?_,by omega,eln,nn,hsh,?_⟩⟩
       ·rw[hsz']
        rcases g3 with g3|g3
        ·subst g3
         simp only[Nat.zero_mul,Nat.add_zero,Nat.sub_zero]
         rw[add_none];split<;>rfl
        ·rw[if_neg (by omega)]
         simp only[Option.map_some];rw[add_addr]
       ·rw[Nat.sub_mul]
        have:l*sz≤c*sz:=Nat.mul_le_mul_right _ (by omega)
        omega
      ·injection hrun with hrun;subst hrun
       obtain⟨g1,hob⟩:=hob.cons
       obtain⟨g2,hob⟩:=hob.cons
       obtain⟨g4,g5⟩:=hob.cons
       have g5:u≤len:=g5
       have g4:l=u:=g4
       subst g4
       obtain⟨hLr,hnil|⟨b,c,hbr,hv,hlc,_⟩⟩:=hp.ev x _ hx
       ·obtain⟨hbn,rfl,hv⟩:=hnil
        have hl0:l=0:=by omega
        subst hl0
        have hb:=run_sliceBounds (P:=P) (w:=w) (a:=a) (lo:=lo) (hi:=hi) (len:=0) (cap:=0) (l:=0) (u:=0) (Nat.le_refl _) (Nat.le_refl _) g5 (evl lo 0 k1 n1 0 h1 g1) (evl hi 0 k2 n2 0 h2 g2)
        have hr:=run_slice (ao:=none) hu (hT el de hde) hb
        exact Does.pure (e := .pv (.list [])) (exec_ok rfl (by rw[hv];exact hr)) (Rd.nil _ _)
       ·have hb:=run_sliceBounds (P:=P) (w:=w) (a:=a) (lo:=lo) (hi:=hi) (len:=len) (cap:=c) (l:=l) (u:=l) hlc (Nat.le_refl _) g5 (evl lo 0 k1 n1 l h1 g1) (evl hi len k2 n2 l h2 g2)
        have hr:=run_slice (ao:=some ⟨b,off,none⟩) hu (hT el de hde) hb
        refine Does.pure (e := .pv (.list [])) (exec_ok rfl (by rw[hv];exact hr)) ?_
        rw[Nat.sub_self]
        exact Rd.nil _ _
     ·cases hrun
   ·rename_i de ys hde
    split at hrun
    ·rename_i k1 n1 k2 n2 h1 h2
     simp only[sliceRes] at hrun
     injection hrun with hrun;subst hrun
     obtain⟨g1,hob⟩:=hob.cons
     obtain⟨g2,hob⟩:=hob.cons
     obtain⟨g3,hob⟩:=hob.cons
     obtain⟨g4,hob⟩:=hob.cons
     obtain⟨g5,g6⟩:=hob.cons
     subst g5
     have hr:Rd I w (.list ys) (a.eval x):=hp.ev x _ hx
     have b1:=evl lo 0 k1 n1 l h1 g1
     have b2:=evl hi ys.length k2 n2 u h2 g2
     generalize hev:a.eval x=v at hr
     have hform:∃ao c,v = .slice ao ys.length c∧ys.length≤c:=by
      cases hr with
      |nil ao c=>exact⟨ao,c,rfl,Nat.zero_le _⟩
      |list _ b o c s f hc=>exact⟨_,c,rfl,hc⟩
     obtain⟨ao,c,rfl,hc⟩:=hform
     have hb:=run_sliceBounds (P:=P) (w:=w) (a:=a) (lo:=lo) (hi:=hi) (len:=ys.length) (cap:=c) (l:=l) (u:=u) hc g3 g4 b1 b2
     exact Does.pure (e := .pv _) (exec_ok rfl (by rw[hev];exact run_slice hu (hT el de hde) hb)) (rd_cut hr g3 g4 g6)
    ·cases hrun
   ·cases hrun
  ·cases hrun
 ·cases hrun
end
end Go.Proofs.YtboilcfohmmpbaaGreatDoor.Sym
