/- Lemmas for the statements of this seat. -/
import Derived.Test.YtfjfekodeplcoaaGreatWSymG
namespace Go.Proofs.YtfjfekodeplcoaaGreat.Sym
open Go Go.RowKit
section
variable {P:Program} {T:ja} {a:Act} {w:World} {β:Nat→Option Nat} {L I:Nat→Prop} {sto:aG} {ρ:Operand→Option EV} {h:Hint} {res:mU}
variable {dst:Option Tmp} {ty:TypeId} {pos:String} {after:Array Edge} {guard:Option (Nat×Bool)}
theorem qk{v:Value}{k:IntKind}{n:Int}(h:Rd I w (.int k n) v):v = .int k n:=by cases h;rfl
theorem tf{α:Type}(xs:List α)(l u i:Nat):((xs.take u).drop l)[i]? = if l+i<u then xs[l+i]? else none:=by
 rw[List.getElem?_drop,List.getElem?_take]
theorem HO(ao:Option Addr):(ao.map (·.add (0:Nat)))=ao:=by cases ao<;>simp[Addr.add]
theorem Mw{xs:List (List PV)}{ao:Option Addr}{n c l u sz:Nat}(hr:Rd I w (.list xs) (.slice ao n c))(Tx:l≤u)(hu:u≤xs.length)(jC:∀row∈(xs.take u).drop l,row.length=sz) :
  Rd I w (.list ((xs.take u).drop l)) (.slice (if c=l then ao else ao.map (·.add (l*sz))) (u-l) (c-l)):=by
 by_cases he:l=u
 ·subst he
  have:(xs.take l).drop l=[]:=by simp
  rw[this,Nat.sub_self]
  exact .nil _ _
 ·cases hr with
  |nil=>simp at hu;omega
  |list _ b o _ s f hc hb hs ho hh =>
   have iO:c≠l:=by omega
   rw[if_neg iO]
   have LD:s=sz:=by
    have h0:xs[l]? = some xs[l]:=List.getElem?_eq_getElem (by omega)
    rw[←hs l _ h0]
    refine jC _ (List.mem_iff_getElem?.2 ⟨0,?_⟩)
    rw[tf,if_pos (by omega)]
    exact h0
   subst LD
   have hlen:((xs.take u).drop l).length=u-l:=by simp;omega
   rw[←hlen]
   have Q3:(some (⟨b,o,none⟩:Addr)).map (·.add (l*s))=some ⟨b,o+l*s,none⟩:=by
    simp only[Option.map_some];rw[eC]
   rw[Q3]
   have get:∀(i:Nat) row,((xs.take u).drop l)[i]? = some row→xs[l+i]? = some row:=by
    intro i row hi
    rw[tf] at hi
    split at hi
    ·exact hi
    ·cases hi
   refine .list _ b (o+l*s) _ s (fun i j=>f (l+i) j) (by rw[hlen];omega) hb (fun i row hi=>hs _ _ (get i row hi)) (fun i j row x hi hj => ?_) (fun i j row x hi hj=>hh _ _ _ _ (get i row hi) hj)
   have:=ho _ j row x (get i row hi) hj
   refine⟨this.1,?_⟩
   rw[show o+l*s+(i*s+j)=o+((l+i)*s+j) from by rw[Nat.add_mul];omega]
   exact this.2
theorem ql{x:Value}{k:IntKind}{i:Int}{n:Nat}{y:Nat}{code:BoundsCode}(hx:x = .int k i)(hi:i=(n:Int))(hn:n≤y):(Instr.sliceBound x y code).run P w = .ok n w:=by
 subst hx;subst hi
 have:(0:Int)≤(n:Int)∧(n:Int)≤(y:Int):=by omega
 simp[Instr.sliceBound,asIntOf,this]
def Mx(a:Act)(o:Option Operand)(d n:Nat):Prop:=match o with
 |some y=>∃k,a.eval y = .int k (n:Int)
 |none=>n=d
theorem fW{lo hi:Option Operand}{len cap l u:Nat}{bb:Bool}(OV:len≤cap)(Tx:l≤u)(rr:u≤len)
  (h1:Mx a lo 0 l) (h2:Mx a hi len u) :
  (Instr.sliceBounds bb len cap (lo.map a.eval) (hi.map a.eval) none).run P w = .ok (l,u,cap) w:=by
 unfold Instr.sliceBounds
 cases lo with
 |none =>
  subst h1
  cases hi with
  |none=>subst h2;rfl
  |some y =>
   obtain⟨k,hy⟩:=h2
   simp only[Option.map_none,Option.map_some,Sem.run_bind,Sem.run_pure,Result.andThen_ok]
   rw[ql hy rfl (by omega)]
   rfl
 |some x =>
  obtain⟨k1,hx⟩:=h1
  cases hi with
  |none =>
   subst h2
   simp only[Option.map_none,Option.map_some,Sem.run_bind,Sem.run_pure,Result.andThen_ok]
   rw[ql hx rfl (by omega)]
   rfl
  |some y =>
   obtain⟨k,hy⟩:=h2
   simp only[Option.map_some,Sem.run_bind,Sem.run_pure,Result.andThen_ok]
   rw[ql hy rfl (by omega)]
   simp only[Result.andThen_ok]
   rw[ql hx rfl (by omega)]
   rfl
theorem CV{t e:TypeId}{x:Value}{lo hi mx:Option Value}(hu:P.underlying t=some (.slice e)):(Instr.sliceAt t x lo hi mx).run P w=(Instr.slice t x lo hi mx).run P w:=by
 unfold Instr.sliceAt
 rw[Sem.run_bind,run_underlying hu,Result.andThen_ok]
theorem pF{t e:TypeId}{de:TD}{ao:Option Addr}{len cap l u:Nat}{lo hi:Option Operand}(hu:P.underlying t=some (.slice e))(hd:ov P e de)
  (hb:(Instr.sliceBounds true len cap (lo.map a.eval) (hi.map a.eval) none).run P w = .ok (l,u,cap) w) :
  (Instr.sliceAt t (.slice ao len cap) (lo.map a.eval) (hi.map a.eval) none).run P w = .ok (.slice (if cap=l then ao else ao.map (·.add (l*de.size))) (u-l) (cap-l)) w:=by
 rw[CV hu]
 unfold Instr.slice
 rw[Sem.run_bind,run_underlying hu,Result.andThen_ok]
 simp only[Sem.run_bind,hb,Result.andThen_ok,hd.run_sizeOf w,Sem.run_pure]
theorem ED{t:TypeId}{s:ByteArray}{l u:Nat}{lo hi:Option Operand}(hu:P.underlying t=some .string)
  (hb:(Instr.sliceBounds false s.size s.size (lo.map a.eval) (hi.map a.eval) none).run P w = .ok (l,u,s.size) w) :
  (Instr.sliceAt t (.string s) (lo.map a.eval) (hi.map a.eval) none).run P w = .ok (.string (s.extract l u)) w:=by
 unfold Instr.sliceAt
 rw[Sem.run_bind,run_underlying hu,Result.andThen_ok]
 show(Instr.slice t (.string s) (lo.map a.eval) (hi.map a.eval) none).run P w=_
 unfold Instr.slice
 rw[Sem.run_bind,run_underlying hu,Result.andThen_ok]
 simp[hb,Result.andThen_ok]
theorem CW{t:TypeId}{x:Operand}{lo hi mx:Option Operand}(hT:lH P T)(hp:xu a w β L I sto ρ)(aw:cr T sto dst (.slice t x lo hi mx) ρ h=some res)(bK:cW res.ob) :
  cX P ⟨dst,.slice t x lo hi mx,ty,pos,after,guard⟩ a β L I w res:=by
 simp only[cr] at aw
 have Hr:∀(o:Option Operand) (Kt:Nat) (k:IntKind) (n:Int) (m:Nat),HK ρ o (.pv (.int .i64 (Kt:Int)))=some (.pv (.int k n))→n=(m:Int)→Mx a o Kt m:=by
  intro o Kt k n m ho hn
  cases o with
  |none =>
   injection ho with ho;injection ho with ho;injection ho with _ ho
   show m=Kt
   omega
  |some y=>exact⟨k,by rw[←hn];exact qk (hp.ev y _ ho)⟩
 split at aw
 ·rename_i d e l u xs hd hx
  split at aw
  ·rename_i el hk
   obtain⟨un,hu,_,hf⟩:=(hT t d hd).under
   rw[hk] at hf
   have hf:un = .slice el:=hf
   subst hf
   split at aw
   ·rename_i de r off len sz lI
    cases jC:Nat.beq de.size sz with
    |false=>simp[jC] at aw
    |true =>
     simp only[jC,cond_true] at aw
     have vJ:de.size=sz:=Nat.eq_of_beq_eq_true jC
     split at aw
     ·rename_i k1 n1 k2 n2 h1 h2
      simp only[uC] at aw
      split at aw
      ·injection aw with aw;subst aw
       obtain⟨g1,bK⟩:=bK.cons
       obtain⟨g2,bK⟩:=bK.cons
       obtain⟨g3,bK⟩:=bK.cons
       obtain⟨g4,g5⟩:=bK.cons
       have g5:u≤len:=g5
       obtain⟨Ov,BG|⟨b,c,j5,hv,GK,UQ,nn,q9,rF⟩⟩:=hp.ev x _ hx
       ·obtain⟨Hs,rfl,hv⟩:=BG
        have HP:u=0:=by omega
        have tC:l=0:=by omega
        subst HP;subst tC
        have hb:=fW (bb:=true) (P:=P) (w:=w) (a:=a) (lo:=lo) (hi:=hi) (len:=0) (cap:=0) (l:=0) (u:=0) (Nat.le_refl _) g4 g5 (Hr lo 0 k1 n1 0 h1 g1) (Hr hi 0 k2 n2 0 h2 g2)
        have hr:=pF (ao:=none) hu (hT el de lI) hb
        exact cX.pure (e := .row _ _ _ _) (cx rfl (by rw[hv];exact hr)) ⟨Ov,.inl ⟨Hs,rfl,rfl⟩⟩
       have hb:=fW (bb:=true) (P:=P) (w:=w) (a:=a) (lo:=lo) (hi:=hi) (len:=len) (cap:=c) (l:=l) (u:=u) GK g4 g5 (Hr lo 0 k1 n1 l h1 g1) (Hr hi len k2 n2 u h2 g2)
       have hr:=pF (ao:=some ⟨b,off,none⟩) hu (hT el de lI) hb
       refine cX.pure (e := .row _ _ _ _) (cx rfl (by rw[hv];exact hr)) ⟨Ov,.inr ⟨b,c-l,j5,?_,by omega,UQ,nn,q9,?_⟩⟩
       ·rw[vJ]
        rcases g3 with g3|g3
        ·subst g3
         simp only[Nat.zero_mul,Nat.add_zero,Nat.sub_zero]
         rw[HO];split<;>rfl
        ·rw[if_neg (by omega)]
         simp only[Option.map_some];rw[eC]
       ·rw[Nat.sub_mul]
        have:l*sz≤c*sz:=Nat.mul_le_mul_right _ (by omega)
        omega
      ·injection aw with aw;subst aw
       obtain⟨g1,bK⟩:=bK.cons
       obtain⟨g2,bK⟩:=bK.cons
       obtain⟨g4,g5⟩:=bK.cons
       have g5:u≤len:=g5
       have g4:l=u:=g4
       subst g4
       obtain⟨Ov,BG|⟨b,c,j5,hv,GK,_⟩⟩:=hp.ev x _ hx
       ·obtain⟨Hs,rfl,hv⟩:=BG
        have tC:l=0:=by omega
        subst tC
        have hb:=fW (bb:=true) (P:=P) (w:=w) (a:=a) (lo:=lo) (hi:=hi) (len:=0) (cap:=0) (l:=0) (u:=0) (Nat.le_refl _) (Nat.le_refl _) g5 (Hr lo 0 k1 n1 0 h1 g1) (Hr hi 0 k2 n2 0 h2 g2)
        have hr:=pF (ao:=none) hu (hT el de lI) hb
        exact cX.pure (e := .pv (.list [])) (cx rfl (by rw[hv];exact hr)) (Rd.nil _ _)
       ·have hb:=fW (bb:=true) (P:=P) (w:=w) (a:=a) (lo:=lo) (hi:=hi) (len:=len) (cap:=c) (l:=l) (u:=l) GK (Nat.le_refl _) g5 (Hr lo 0 k1 n1 l h1 g1) (Hr hi len k2 n2 l h2 g2)
        have hr:=pF (ao:=some ⟨b,off,none⟩) hu (hT el de lI) hb
        refine cX.pure (e := .pv (.list [])) (cx rfl (by rw[hv];exact hr)) ?_
        rw[Nat.sub_self]
        exact Rd.nil _ _
     ·cases aw
   ·rename_i de ys lI
    split at aw
    ·rename_i k1 n1 k2 n2 h1 h2
     simp only[uC] at aw
     injection aw with aw;subst aw
     obtain⟨g1,bK⟩:=bK.cons
     obtain⟨g2,bK⟩:=bK.cons
     obtain⟨g3,bK⟩:=bK.cons
     obtain⟨g4,bK⟩:=bK.cons
     obtain⟨g5,g6⟩:=bK.cons
     subst g5
     have hr:Rd I w (.list ys) (a.eval x):=hp.ev x _ hx
     have b1:=Hr lo 0 k1 n1 l h1 g1
     have b2:=Hr hi ys.length k2 n2 u h2 g2
     generalize yx:a.eval x=v at hr
     have OW:∃ao c,v = .slice ao ys.length c∧ys.length≤c:=by
      cases hr with
      |nil ao c=>exact⟨ao,c,rfl,Nat.zero_le _⟩
      |list _ b o c s f hc=>exact⟨_,c,rfl,hc⟩
     obtain⟨ao,c,rfl,hc⟩:=OW
     have hb:=fW (bb:=true) (P:=P) (w:=w) (a:=a) (lo:=lo) (hi:=hi) (len:=ys.length) (cap:=c) (l:=l) (u:=u) hc g3 g4 b1 b2
     exact cX.pure (e := .pv _) (cx rfl (by rw[yx];exact pF hu (hT el de lI) hb)) (Mw hr g3 g4 g6)
    ·cases aw
   ·cases aw
  ·rename_i hk
   obtain⟨un,hu,_,hf⟩:=(hT t d hd).under
   rw[hk] at hf
   have hf:un = .string:=hf
   subst hf
   split at aw
   ·rename_i bs
    split at aw
    ·rename_i k1 n1 k2 n2 h1 h2
     injection aw with aw;subst aw
     obtain⟨g1,bK⟩:=bK.cons
     obtain⟨g2,bK⟩:=bK.cons
     obtain⟨g3,g4⟩:=bK.cons
     have g4:u≤bs.size:=g4
     have hv:a.eval x = .string bs:=by
      have hr:Rd I w (.str bs) (a.eval x):=hp.ev x _ hx
      generalize a.eval x=v at hr
      cases hr;rfl
     have hb:=fW (P:=P) (w:=w) (a:=a) (lo:=lo) (hi:=hi) (len:=bs.size) (cap:=bs.size) (l:=l) (u:=u) (bb:=false) (Nat.le_refl _) g3 g4 (Hr lo 0 k1 n1 l h1 g1) (Hr hi bs.size k2 n2 u h2 g2)
     exact cX.pure (e := .pv _) (cx rfl (by rw[hv];exact ED hu hb)) (.str _)
    ·cases aw
   ·cases aw
  ·cases aw
 ·cases aw
end
end Go.Proofs.YtfjfekodeplcoaaGreat.Sym
