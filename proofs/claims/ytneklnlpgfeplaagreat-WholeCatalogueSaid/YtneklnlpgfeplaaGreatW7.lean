/- Lemmas for the statements of this seat. -/
import Derived.Test.YtneklnlpgfeplaaGreatW6
namespace Go.Proofs.YtneklnlpgfeplaaGreat.Sym
open Go Go.RowKit
section
variable {P:Program} {T:ja} {a:Act} {w:World} {β:Nat→Option Nat} {L I:Nat→Prop} {aP:aY} {ρ:Operand→Option EV} {h:Hint} {res:nX}
variable {dst:Option Tmp} {ty:TypeId} {pos:String} {after:Array Edge} {guard:Option (Nat×Bool)}
theorem sL{v:Value}{k:IntKind}{n:Int}(h:Rd I w (.int k n) v):v = .int k n:=by cases h;rfl
theorem uE{α:Type}(xs:List α)(l u i:Nat):((xs.take u).drop l)[i]? = if l+i<u then xs[l+i]? else none:=by rw[acq,ack]
theorem JU(ao:Option Addr):(ao.map (·.add (0:Nat)))=ao:=by cases ao<;>simp[Addr.add]
theorem O9{xs:List (List PV)}{ao:Option Addr}{n c l u sz:Nat}(hr:Rd I w (.list xs) (.slice ao n c))(Yi:l≤u)(hu:u≤xs.length)(ji:∀row∈(xs.take u).drop l,row.length=sz) :
  Rd I w (.list ((xs.take u).drop l)) (.slice (if c=l then ao else ao.map (·.add (l*sz))) (u-l) (c-l)):=by
 by_cases he:l=u
 ·subst he;have:(xs.take l).drop l=[]:=by simp
  rw[this,aeQ];exact .nil _ _
 ·cases hr with
  |nil=>simp at hu;omega
  |list _ b o _ s f hc hb hs ho hh =>
   have nZ:c≠l:=by omega
   rw[ac3 nZ];have RU:s=sz:=by have h0:xs[l]? = some xs[l]:=abJ (by omega);rw[←hs l _ h0];refine ji _ (acR.2 ⟨0,?_⟩);rw[uE,ac7 (by omega)];exact h0
   subst RU;have hlen:((xs.take u).drop l).length=u-l:=by simp;omega
   rw[←hlen];have Vd:(some (⟨b,o,none⟩:Addr)).map (·.add (l*s))=some ⟨b,o+l*s,none⟩:=by simp only[Option.map_some];rw[gw]
   rw[Vd];have get:∀(i:Nat) row,((xs.take u).drop l)[i]? = some row→xs[l+i]? = some row:=by
    intro i row hi;rw[uE] at hi;split at hi
    ·exact hi
    ·cases hi
   refine .list _ b (o+l*s) _ s (fun i j=>f (l+i) j) (by rw[hlen];omega) hb (fun i row hi=>hs _ _ (get i row hi)) (fun i j row x hi hj => ?_) (fun i j row x hi hj=>hh _ _ _ _ (get i row hi) hj);have:=ho _ j row x (get i row hi) hj;refine⟨this.1,?_⟩;rw[show o+l*s+(i*s+j)=o+((l+i)*s+j) from by rw[acv];omega];exact this.2
theorem rb{x:Value}{k:IntKind}{i:Int}{n:Nat}{y:Nat}{code:BoundsCode}(hx:x = .int k i)(hi:i=(n:Int))(hn:n≤y):(Instr.sliceBound x y code).run P w = .ok n w:=by
 subst hx;subst hi;have:(0:Int)≤(n:Int)∧(n:Int)≤(y:Int):=by omega
 simp[Instr.sliceBound,asIntOf,this]
def Pa(a:Act)(o:Option Operand)(d n:Nat):Prop:=match o with
 |some y=>∃k,a.eval y = .int k (n:Int)
 |none=>n=d
theorem gp{lo hi:Option Operand}{len cap l u:Nat}{bb:Bool}(Ve:len≤cap)(Yi:l≤u)(yT:u≤len)
  (h1:Pa a lo 0 l) (h2:Pa a hi len u) :
  (Instr.sliceBounds bb len cap (lo.map a.eval) (hi.map a.eval) none).run P w = .ok (l,u,cap) w:=by
 unfold Instr.sliceBounds;cases lo with
 |none =>
  subst h1;cases hi with
  |none=>subst h2;rfl
  |some y =>obtain⟨k,hy⟩:=h2;simp only[Option.map_none,Option.map_some,Sem.run_bind,Sem.run_pure,Result.andThen_ok];rw[rb hy rfl (by omega)];rfl
 |some x =>
  obtain⟨k1,hx⟩:=h1;cases hi with
  |none =>subst h2;simp only[Option.map_none,Option.map_some,Sem.run_bind,Sem.run_pure,Result.andThen_ok];rw[rb hx rfl (by omega)];rfl
  |some y =>obtain⟨k,hy⟩:=h2;simp only[Option.map_some,Sem.run_bind,Sem.run_pure,Result.andThen_ok];rw[rb hy rfl (by omega)];simp only[Result.andThen_ok];rw[rb hx rfl (by omega)];rfl
theorem EE{t e:TypeId}{x:Value}{lo hi mx:Option Value}(hu:P.underlying t=some (.slice e)):(Instr.sliceAt t x lo hi mx).run P w=(Instr.slice t x lo hi mx).run P w:=by unfold Instr.sliceAt;rw[abU,run_underlying hu,abN]
theorem qy{t e:TypeId}{de:TD}{ao:Option Addr}{len cap l u:Nat}{lo hi:Option Operand}(hu:P.underlying t=some (.slice e))(hd:od P e de)
  (hb:(Instr.sliceBounds true len cap (lo.map a.eval) (hi.map a.eval) none).run P w = .ok (l,u,cap) w) :
  (Instr.sliceAt t (.slice ao len cap) (lo.map a.eval) (hi.map a.eval) none).run P w = .ok (.slice (if cap=l then ao else ao.map (·.add (l*de.size))) (u-l) (cap-l)) w:=by
 rw[EE hu];unfold Instr.slice;rw[abU,run_underlying hu,abN];simp only[Sem.run_bind,hb,Result.andThen_ok,hd.run_sizeOf w,Sem.run_pure]
theorem Gi{t:TypeId}{s:ByteArray}{l u:Nat}{lo hi:Option Operand}(hu:P.underlying t=some .string)
  (hb:(Instr.sliceBounds false s.size s.size (lo.map a.eval) (hi.map a.eval) none).run P w = .ok (l,u,s.size) w) :
  (Instr.sliceAt t (.string s) (lo.map a.eval) (hi.map a.eval) none).run P w = .ok (.string (s.extract l u)) w:=by
 unfold Instr.sliceAt;rw[abU,run_underlying hu,abN];show(Instr.slice t (.string s) (lo.map a.eval) (hi.map a.eval) none).run P w=_;unfold Instr.slice;rw[abU,run_underlying hu,abN];simp[hb,Result.andThen_ok]
theorem EF{t:TypeId}{x:Operand}{lo hi mx:Option Operand}(hT:mm P T)(hp:xZ a w β L I aP ρ)(aJ:cI T aP dst (.slice t x lo hi mx) ρ h=some res)(cf:dW res.ob) :
  dw P ⟨dst,.slice t x lo hi mx,ty,pos,after,guard⟩ a β L I w res:=by
 simp only[cI] at aJ;have Ju:∀(o:Option Operand) (MJ:Nat) (k:IntKind) (n:Int) (m:Nat),JR ρ o (.pv (.int .i64 (MJ:Int)))=some (.pv (.int k n))→n=(m:Int)→Pa a o MJ m:=by
  intro o MJ k n m ho hn;cases o with
  |none =>
   injection ho with ho;injection ho with ho;injection ho with _ ho
   show m=MJ;omega
  |some y=>exact⟨k,by rw[←hn];exact sL (hp.ev y _ ho)⟩
 split at aJ
 ·rename_i d e l u xs hd hx;split at aJ
  ·rename_i el hk;obtain⟨un,hu,_,hf⟩:=(hT t d hd).under;rw[hk] at hf;have hf:un = .slice el:=hf;subst hf;split at aJ
   ·rename_i de r off len sz nL;cases ji:Nat.beq de.size sz with
    |false=>simp[ji] at aJ
    |true =>
     simp only[ji,cond_true] at aJ;have Dt:de.size=sz:=abO ji;split at aJ
     ·rename_i k1 n1 k2 n2 h1 h2;simp only[vZ] at aJ;split at aJ
      ·injection aJ with aJ;subst aJ
       obtain⟨g1,cf⟩:=cf.cons;obtain⟨g2,cf⟩:=cf.cons;obtain⟨g3,cf⟩:=cf.cons;obtain⟨g4,g5⟩:=cf.cons;have g5:u≤len:=g5;obtain⟨Od,zV|⟨b,c,lA,hv,IJ,Zv,nn,zW,yU⟩⟩:=hp.ev x _ hx
       ·obtain⟨Oe,rfl,hv⟩:=zV;have MK:u=0:=by omega
        have EG:l=0:=by omega
        subst MK;subst EG;have hb:=gp (bb:=true) (P:=P) (w:=w) (a:=a) (lo:=lo) (hi:=hi) (len:=0) (cap:=0) (l:=0) (u:=0) (abW _) g4 g5 (Ju lo 0 k1 n1 0 h1 g1) (Ju hi 0 k2 n2 0 h2 g2);have hr:=qy (ao:=none) hu (hT el de nL) hb;exact dw.pure (e := .row _ _ _ _) (cJ rfl (by rw[hv];exact hr)) ⟨Od,.inl ⟨Oe,rfl,rfl⟩⟩
       have hb:=gp (bb:=true) (P:=P) (w:=w) (a:=a) (lo:=lo) (hi:=hi) (len:=len) (cap:=c) (l:=l) (u:=u) IJ g4 g5 (Ju lo 0 k1 n1 l h1 g1) (Ju hi len k2 n2 u h2 g2);have hr:=qy (ao:=some ⟨b,off,none⟩) hu (hT el de nL) hb;refine dw.pure (e := .row _ _ _ _) (cJ rfl (by rw[hv];exact hr)) ⟨Od,.inr ⟨b,c-l,lA,?_,by omega,Zv,nn,zW,?_⟩⟩
       ·rw[Dt];rcases g3 with g3|g3
        ·subst g3;simp only[Nat.zero_mul,Nat.add_zero,Nat.sub_zero];rw[JU];split<;>rfl
        ·rw[ac3 (by omega)];simp only[Option.map_some];rw[gw]
       ·rw[Nat.sub_mul];have:l*sz≤c*sz:=ac9 _ (by omega);omega
      ·injection aJ with aJ;subst aJ
       obtain⟨g1,cf⟩:=cf.cons;obtain⟨g2,cf⟩:=cf.cons;obtain⟨g4,g5⟩:=cf.cons;have g5:u≤len:=g5;have g4:l=u:=g4;subst g4;obtain⟨Od,zV|⟨b,c,lA,hv,IJ,_⟩⟩:=hp.ev x _ hx
       ·obtain⟨Oe,rfl,hv⟩:=zV;have EG:l=0:=by omega
        subst EG;have hb:=gp (bb:=true) (P:=P) (w:=w) (a:=a) (lo:=lo) (hi:=hi) (len:=0) (cap:=0) (l:=0) (u:=0) (abW _) (abW _) g5 (Ju lo 0 k1 n1 0 h1 g1) (Ju hi 0 k2 n2 0 h2 g2);have hr:=qy (ao:=none) hu (hT el de nL) hb;exact dw.pure (e := .pv (.list [])) (cJ rfl (by rw[hv];exact hr)) (Rd.nil _ _)
       ·have hb:=gp (bb:=true) (P:=P) (w:=w) (a:=a) (lo:=lo) (hi:=hi) (len:=len) (cap:=c) (l:=l) (u:=l) IJ (abW _) g5 (Ju lo 0 k1 n1 l h1 g1) (Ju hi len k2 n2 l h2 g2);have hr:=qy (ao:=some ⟨b,off,none⟩) hu (hT el de nL) hb;refine dw.pure (e := .pv (.list [])) (cJ rfl (by rw[hv];exact hr)) ?_;rw[aeQ];exact Rd.nil _ _
     ·cases aJ
   ·rename_i de ys nL;split at aJ
    ·rename_i k1 n1 k2 n2 h1 h2;simp only[vZ] at aJ;injection aJ with aJ;subst aJ
     obtain⟨g1,cf⟩:=cf.cons;obtain⟨g2,cf⟩:=cf.cons;obtain⟨g3,cf⟩:=cf.cons;obtain⟨g4,cf⟩:=cf.cons;obtain⟨g5,g6⟩:=cf.cons;subst g5;have hr:Rd I w (.list ys) (a.eval x):=hp.ev x _ hx;have b1:=Ju lo 0 k1 n1 l h1 g1;have b2:=Ju hi ys.length k2 n2 u h2 g2;generalize xn:a.eval x=v at hr;have RV:∃ao c,v = .slice ao ys.length c∧ys.length≤c:=by
      cases hr with
      |nil ao c=>exact⟨ao,c,rfl,adz _⟩
      |list _ b o c s f hc=>exact⟨_,c,rfl,hc⟩
     obtain⟨ao,c,rfl,hc⟩:=RV;have hb:=gp (bb:=true) (P:=P) (w:=w) (a:=a) (lo:=lo) (hi:=hi) (len:=ys.length) (cap:=c) (l:=l) (u:=u) hc g3 g4 b1 b2;exact dw.pure (e := .pv _) (cJ rfl (by rw[xn];exact qy hu (hT el de nL) hb)) (O9 hr g3 g4 g6)
    ·cases aJ
   ·cases aJ
  ·rename_i hk;obtain⟨un,hu,_,hf⟩:=(hT t d hd).under;rw[hk] at hf;have hf:un = .string:=hf;subst hf;split at aJ
   ·rename_i bs;split at aJ
    ·rename_i k1 n1 k2 n2 h1 h2;injection aJ with aJ;subst aJ
     obtain⟨g1,cf⟩:=cf.cons;obtain⟨g2,cf⟩:=cf.cons;obtain⟨g3,g4⟩:=cf.cons;have g4:u≤bs.size:=g4;have hv:a.eval x = .string bs:=by have hr:Rd I w (.str bs) (a.eval x):=hp.ev x _ hx;generalize a.eval x=v at hr;cases hr;rfl
     have hb:=gp (P:=P) (w:=w) (a:=a) (lo:=lo) (hi:=hi) (len:=bs.size) (cap:=bs.size) (l:=l) (u:=u) (bb:=false) (abW _) g3 g4 (Ju lo 0 k1 n1 l h1 g1) (Ju hi bs.size k2 n2 u h2 g2);exact dw.pure (e := .pv _) (cJ rfl (by rw[hv];exact Gi hu hb)) (.str _)
    ·cases aJ
   ·cases aJ
  ·cases aJ
 ·cases aJ
end
end Go.Proofs.YtneklnlpgfeplaaGreat.Sym
