/- Lemmas for the statements of this seat. -/
import Derived.Test.YtcpnocgollpbhaaGreatDoorW6
namespace Go.Proofs.YtcpnocgollpbhaaGreatDoor.Sym
open Go Go.RowKit
section
variable {P:Program} {T:lh} {a:Act} {w:World} {β:Nat→Option Nat} {L I:Nat→Prop} {aK:aT} {ρ:Operand→Option EV} {h:Hint} {res:oP}
variable {dst:Option Tmp} {ty:TypeId} {pos:String} {after:Array Edge} {guard:Option (Nat×Bool)}
theorem ud{v:Value}{k:IntKind}{n:Int}(h:Rd I w (.int k n) v):v = .int k n:=by cases h;rfl
theorem wg{α:Type}(xs:List α)(l u i:Nat):((xs.take u).drop l)[i]? = if l+i<u then xs[l+i]? else none:=by rw[agn,agh]
theorem OF(ao:Option Addr):(ao.map (·.add (0:Nat)))=ao:=by cases ao<;>simp[Addr.add]
theorem Uo{xs:List (List PV)}{ao:Option Addr}{n c l u sz:Nat}(hr:Rd I w (.list xs) (.slice ao n c))(hlu:l≤u)(hu:u≤xs.length)(mg:∀row∈(xs.take u).drop l,row.length=sz) :
  Rd I w (.list ((xs.take u).drop l)) (.slice (if c=l then ao else ao.map (·.add (l*sz))) (u-l) (c-l)):=by
 by_cases he:l=u
 ·subst he;have:(xs.take l).drop l=[]:=by simp
  rw[this,ahR];exact .nil _ _
 ·cases hr with
  |nil=>simp at hu;omega
  |list _ b o _ s f hc hb hs ho hh =>
   have fT:c≠l:=by omega
   rw[afG fT];have WT:s=sz:=by have h0:xs[l]? = some xs[l]:=afp (by omega);rw[←hs l _ h0];refine mg _ (ahn.2 ⟨0,?_⟩);rw[wg,afI (by omega)];exact h0
   subst WT;have hlen:((xs.take u).drop l).length=u-l:=by simp;omega
   rw[←hlen];have H5:(some (⟨b,o,none⟩:Addr)).map (·.add (l*s))=some ⟨b,o+l*s,none⟩:=by simp only[Option.map_some];rw[gU]
   rw[H5];have get:∀(i:Nat) row,((xs.take u).drop l)[i]? = some row→xs[l+i]? = some row:=by
    intro i row hi;rw[wg] at hi;split at hi
    ·exact hi
    ·cases hi
   refine .list _ b (o+l*s) _ s (fun i j=>f (l+i) j) (by rw[hlen];omega) hb (fun i row hi=>hs _ _ (get i row hi)) (fun i j row x hi hj => ?_) (fun i j row x hi hj=>hh _ _ _ _ (get i row hi) hj);have:=ho _ j row x (get i row hi) hj;refine⟨this.1,?_⟩;rw[show o+l*s+(i*s+j)=o+((l+i)*s+j) from by rw[age];omega];exact this.2
theorem sN{x:Value}{k:IntKind}{i:Int}{n:Nat}{y:Nat}{code:BoundsCode}(hx:x = .int k i)(hi:i=(n:Int))(hn:n≤y):(Instr.sliceBound x y code).run P w = .ok n w:=by
 subst hx;subst hi;have:(0:Int)≤(n:Int)∧(n:Int)≤(y:Int):=by omega
 simp[Instr.sliceBound,asIntOf,this]
def Up(a:Act)(o:Option Operand)(d n:Nat):Prop:=match o with
 |some y=>∃k,a.eval y = .int k (n:Int)
 |none=>n=d
theorem gS{lo hi:Option Operand}{len cap l u:Nat}{bb:Bool}(Zi:len≤cap)(hlu:l≤u)(zF:u≤len)
  (h1:Up a lo 0 l) (h2:Up a hi len u) :
  (Instr.sliceBounds bb len cap (lo.map a.eval) (hi.map a.eval) none).run P w = .ok (l,u,cap) w:=by
 unfold Instr.sliceBounds;cases lo with
 |none =>
  subst h1;cases hi with
  |none=>subst h2;rfl
  |some y =>obtain⟨k,hy⟩:=h2;simp only[Option.map_none,Option.map_some,Sem.run_bind,Sem.run_pure,Result.andThen_ok];rw[sN hy rfl (by omega)];rfl
 |some x =>
  obtain⟨k1,hx⟩:=h1;cases hi with
  |none =>subst h2;simp only[Option.map_none,Option.map_some,Sem.run_bind,Sem.run_pure,Result.andThen_ok];rw[sN hx rfl (by omega)];rfl
  |some y =>obtain⟨k,hy⟩:=h2;simp only[Option.map_some,Sem.run_bind,Sem.run_pure,Result.andThen_ok];rw[sN hy rfl (by omega)];simp only[Result.andThen_ok];rw[sN hx rfl (by omega)];rfl
theorem H6{t e:TypeId}{x:Value}{lo hi mx:Option Value}(hu:P.underlying t=some (.slice e)):(Instr.sliceAt t x lo hi mx).run P w=(Instr.slice t x lo hi mx).run P w:=by unfold Instr.sliceAt;rw[afL,run_underlying hu,aft]
theorem r8{t e:TypeId}{de:TD}{ao:Option Addr}{len cap l u:Nat}{lo hi:Option Operand}(hu:P.underlying t=some (.slice e))(hd:qD P e de)
  (hb:(Instr.sliceBounds true len cap (lo.map a.eval) (hi.map a.eval) none).run P w = .ok (l,u,cap) w) :
  (Instr.sliceAt t (.slice ao len cap) (lo.map a.eval) (hi.map a.eval) none).run P w = .ok (.slice (if cap=l then ao else ao.map (·.add (l*de.size))) (u-l) (cap-l)) w:=by
 rw[H6 hu];unfold Instr.slice;rw[afL,run_underlying hu,aft];simp only[Sem.run_bind,hb,Result.andThen_ok,hd.run_sizeOf w,Sem.run_pure]
theorem Ka{t:TypeId}{s:ByteArray}{l u:Nat}{lo hi:Option Operand}(hu:P.underlying t=some .string)
  (hb:(Instr.sliceBounds false s.size s.size (lo.map a.eval) (hi.map a.eval) none).run P w = .ok (l,u,s.size) w) :
  (Instr.sliceAt t (.string s) (lo.map a.eval) (hi.map a.eval) none).run P w = .ok (.string (s.extract l u)) w:=by
 unfold Instr.sliceAt;rw[afL,run_underlying hu,aft];show(Instr.slice t (.string s) (lo.map a.eval) (hi.map a.eval) none).run P w=_;unfold Instr.slice;rw[afL,run_underlying hu,aft];simp[hb,Result.andThen_ok]
theorem H7{t:TypeId}{x:Operand}{lo hi mx:Option Operand}(hT:oE P T)(hp:Bq a w β L I aK ρ)(aw:cw T aK dst (.slice t x lo hi mx) ρ h=some res)(cv:dX res.ob) :
  dy P ⟨dst,.slice t x lo hi mx,ty,pos,after,guard⟩ a β L I w res:=by
 simp only[cw] at aw;have N8:∀(o:Option Operand) (RF:Nat) (k:IntKind) (n:Int) (m:Nat),OA ρ o (.pv (.int .i64 (RF:Int)))=some (.pv (.int k n))→n=(m:Int)→Up a o RF m:=by
  intro o RF k n m ho hn;cases o with
  |none =>
   injection ho with ho;injection ho with ho;injection ho with _ ho
   show m=RF;omega
  |some y=>exact⟨k,by rw[←hn];exact ud (hp.ev y _ ho)⟩
 split at aw
 ·rename_i d e l u xs hd hx;split at aw
  ·rename_i el hk;obtain⟨un,hu,_,hf⟩:=(hT t d hd).under;rw[hk] at hf;have hf:un = .slice el:=hf;subst hf;split at aw
   ·rename_i de r off len sz pE;cases mg:Nat.beq de.size sz with
    |false=>simp[mg] at aw
    |true =>
     simp only[mg,cond_true] at aw;have Ge:de.size=sz:=afB mg;split at aw
     ·rename_i k1 n1 k2 n2 h1 h2;simp only[xT] at aw;split at aw
      ·injection aw with aw;subst aw
       obtain⟨g1,cv⟩:=cv.cons;obtain⟨g2,cv⟩:=cv.cons;obtain⟨g3,cv⟩:=cv.cons;obtain⟨g4,g5⟩:=cv.cons;have g5:u≤len:=g5;obtain⟨WR,Gf|⟨b,c,oQ,hv,RG,eln,nn,E3,qE⟩⟩:=hp.ev x _ hx
       ·obtain⟨Ti,rfl,hv⟩:=Gf;have RH:u=0:=by omega
        have H8:l=0:=by omega
        subst RH;subst H8;have hb:=gS (bb:=true) (P:=P) (w:=w) (a:=a) (lo:=lo) (hi:=hi) (len:=0) (cap:=0) (l:=0) (u:=0) (afy _) g4 g5 (N8 lo 0 k1 n1 0 h1 g1) (N8 hi 0 k2 n2 0 h2 g2);have hr:=r8 (ao:=none) hu (hT el de pE) hb;exact dy.pure (e := .row _ _ _ _) (cF rfl (by rw[hv];exact hr)) ⟨WR,.inl ⟨Ti,rfl,rfl⟩⟩
       have hb:=gS (bb:=true) (P:=P) (w:=w) (a:=a) (lo:=lo) (hi:=hi) (len:=len) (cap:=c) (l:=l) (u:=u) RG g4 g5 (N8 lo 0 k1 n1 l h1 g1) (N8 hi len k2 n2 u h2 g2);have hr:=r8 (ao:=some ⟨b,off,none⟩) hu (hT el de pE) hb;refine dy.pure (e := .row _ _ _ _) (cF rfl (by rw[hv];exact hr)) ⟨WR,.inr ⟨b,c-l,oQ,?_,by omega,eln,nn,E3,?_⟩⟩
       ·rw[Ge];rcases g3 with g3|g3
        ·subst g3;simp only[Nat.zero_mul,Nat.add_zero,Nat.sub_zero];rw[OF];split<;>rfl
        ·rw[afG (by omega)];simp only[Option.map_some];rw[gU]
       ·rw[Nat.sub_mul];have:l*sz≤c*sz:=afw _ (by omega);omega
      ·injection aw with aw;subst aw
       obtain⟨g1,cv⟩:=cv.cons;obtain⟨g2,cv⟩:=cv.cons;obtain⟨g4,g5⟩:=cv.cons;have g5:u≤len:=g5;have g4:l=u:=g4;subst g4;obtain⟨WR,Gf|⟨b,c,oQ,hv,RG,_⟩⟩:=hp.ev x _ hx
       ·obtain⟨Ti,rfl,hv⟩:=Gf;have H8:l=0:=by omega
        subst H8;have hb:=gS (bb:=true) (P:=P) (w:=w) (a:=a) (lo:=lo) (hi:=hi) (len:=0) (cap:=0) (l:=0) (u:=0) (afy _) (afy _) g5 (N8 lo 0 k1 n1 0 h1 g1) (N8 hi 0 k2 n2 0 h2 g2);have hr:=r8 (ao:=none) hu (hT el de pE) hb;exact dy.pure (e := .pv (.list [])) (cF rfl (by rw[hv];exact hr)) (Rd.nil _ _)
       ·have hb:=gS (bb:=true) (P:=P) (w:=w) (a:=a) (lo:=lo) (hi:=hi) (len:=len) (cap:=c) (l:=l) (u:=l) RG (afy _) g5 (N8 lo 0 k1 n1 l h1 g1) (N8 hi len k2 n2 l h2 g2);have hr:=r8 (ao:=some ⟨b,off,none⟩) hu (hT el de pE) hb;refine dy.pure (e := .pv (.list [])) (cF rfl (by rw[hv];exact hr)) ?_;rw[ahR];exact Rd.nil _ _
     ·cases aw
   ·rename_i de ys pE;split at aw
    ·rename_i k1 n1 k2 n2 h1 h2;simp only[xT] at aw;injection aw with aw;subst aw
     obtain⟨g1,cv⟩:=cv.cons;obtain⟨g2,cv⟩:=cv.cons;obtain⟨g3,cv⟩:=cv.cons;obtain⟨g4,cv⟩:=cv.cons;obtain⟨g5,g6⟩:=cv.cons;subst g5;have hr:Rd I w (.list ys) (a.eval x):=hp.ev x _ hx;have b1:=N8 lo 0 k1 n1 l h1 g1;have b2:=N8 hi ys.length k2 n2 u h2 g2;generalize tT:a.eval x=v at hr;have Lx:∃ao c,v = .slice ao ys.length c∧ys.length≤c:=by
      cases hr with
      |nil ao c=>exact⟨ao,c,rfl,ag0 _⟩
      |list _ b o c s f hc=>exact⟨_,c,rfl,hc⟩
     obtain⟨ao,c,rfl,hc⟩:=Lx;have hb:=gS (bb:=true) (P:=P) (w:=w) (a:=a) (lo:=lo) (hi:=hi) (len:=ys.length) (cap:=c) (l:=l) (u:=u) hc g3 g4 b1 b2;exact dy.pure (e := .pv _) (cF rfl (by rw[tT];exact r8 hu (hT el de pE) hb)) (Uo hr g3 g4 g6)
    ·cases aw
   ·cases aw
  ·rename_i hk;obtain⟨un,hu,_,hf⟩:=(hT t d hd).under;rw[hk] at hf;have hf:un = .string:=hf;subst hf;split at aw
   ·rename_i bs;split at aw
    ·rename_i k1 n1 k2 n2 h1 h2;injection aw with aw;subst aw
     obtain⟨g1,cv⟩:=cv.cons;obtain⟨g2,cv⟩:=cv.cons;obtain⟨g3,g4⟩:=cv.cons;have g4:u≤bs.size:=g4;have hv:a.eval x = .string bs:=by have hr:Rd I w (.str bs) (a.eval x):=hp.ev x _ hx;generalize a.eval x=v at hr;cases hr;rfl
     have hb:=gS (P:=P) (w:=w) (a:=a) (lo:=lo) (hi:=hi) (len:=bs.size) (cap:=bs.size) (l:=l) (u:=u) (bb:=false) (afy _) g3 g4 (N8 lo 0 k1 n1 l h1 g1) (N8 hi bs.size k2 n2 u h2 g2);exact dy.pure (e := .pv _) (cF rfl (by rw[hv];exact Ka hu hb)) (.str _)
    ·cases aw
   ·cases aw
  ·cases aw
 ·cases aw
end
end Go.Proofs.YtcpnocgollpbhaaGreatDoor.Sym
