/- Lemmas for the statements of this seat. -/
import Derived.Test.YtcpnocgollpbhaaGreatDoorW6
namespace Go.Proofs.YtcpnocgollpbhaaGreatDoor.Sym
open Go Go.RowKit
section
variable {P:Program} {T:kL} {a:Act} {w:World} {β:Nat→Option Nat} {L I:Nat→Prop} {aG:aS} {ρ:Operand→Option EV} {h:Hint} {res:oq}
variable {dst:Option Tmp} {ty:TypeId} {pos:String} {after:Array Edge} {guard:Option (Nat×Bool)}
theorem tm{v:Value}{k:IntKind}{n:Int}(h:Rd I w (.int k n) v):v = .int k n:=by cases h;rfl
theorem u9{α:Type}(xs:List α)(l u i:Nat):((xs.take u).drop l)[i]? = if l+i<u then xs[l+i]? else none:=by rw[agS,agG]
theorem N0(ao:Option Addr):(ao.map (·.add (0:Nat)))=ao:=by cases ao<;>simp[Addr.add]
theorem TS{xs:List (List PV)}{ao:Option Addr}{n c l u sz:Nat}(hr:Rd I w (.list xs) (.slice ao n c))(hlu:l≤u)(hu:u≤xs.length)(lT:∀row∈(xs.take u).drop l,row.length=sz) :
  Rd I w (.list ((xs.take u).drop l)) (.slice (if c=l then ao else ao.map (·.add (l*sz))) (u-l) (c-l)):=by
 by_cases he:l=u
 ·subst he;have:(xs.take l).drop l=[]:=by simp
  rw[this,aiq];exact .nil _ _
 ·cases hr with
  |nil=>simp at hu;omega
  |list _ b o _ s f hc hb hs ho hh =>
   have et:c≠l:=by omega
   rw[ag7 et];have Wv:s=sz:=by have h0:xs[l]? = some xs[l]:=afO (by omega);rw[←hs l _ h0];refine lT _ (ahJ.2 ⟨0,?_⟩);rw[u9,ag9 (by omega)];exact h0
   subst Wv;have hlen:((xs.take u).drop l).length=u-l:=by simp;omega
   rw[←hlen];have Q1:(some (⟨b,o,none⟩:Addr)).map (·.add (l*s))=some ⟨b,o+l*s,none⟩:=by simp only[Option.map_some];rw[gD]
   rw[Q1];have get:∀(i:Nat) row,((xs.take u).drop l)[i]? = some row→xs[l+i]? = some row:=by
    intro i row hi;rw[u9] at hi;split at hi
    ·exact hi
    ·cases hi
   refine .list _ b (o+l*s) _ s (fun i j=>f (l+i) j) (by rw[hlen];omega) hb (fun i row hi=>hs _ _ (get i row hi)) (fun i j row x hi hj => ?_) (fun i j row x hi hj=>hh _ _ _ _ (get i row hi) hj);have:=ho _ j row x (get i row hi) hj;refine⟨this.1,?_⟩;rw[show o+l*s+(i*s+j)=o+((l+i)*s+j) from by rw[agF];omega];exact this.2
theorem rU{x:Value}{k:IntKind}{i:Int}{n:Nat}{y:Nat}{code:BoundsCode}(hx:x = .int k i)(hi:i=(n:Int))(hn:n≤y):(Instr.sliceBound x y code).run P w = .ok n w:=by
 subst hx;subst hi;have:(0:Int)≤(n:Int)∧(n:Int)≤(y:Int):=by omega
 simp[Instr.sliceBound,asIntOf,this]
def TT(a:Act)(o:Option Operand)(d n:Nat):Prop:=match o with
 |some y=>∃k,a.eval y = .int k (n:Int)
 |none=>n=d
theorem gA{lo hi:Option Operand}{len cap l u:Nat}{bb:Bool}(Ze:len≤cap)(hlu:l≤u)(yg:u≤len)
  (h1:TT a lo 0 l) (h2:TT a hi len u) :
  (Instr.sliceBounds bb len cap (lo.map a.eval) (hi.map a.eval) none).run P w = .ok (l,u,cap) w:=by
 unfold Instr.sliceBounds;cases lo with
 |none =>
  subst h1;cases hi with
  |none=>subst h2;rfl
  |some y =>obtain⟨k,hy⟩:=h2;simp only[Option.map_none,Option.map_some,Sem.run_bind,Sem.run_pure,Result.andThen_ok];rw[rU hy rfl (by omega)];rfl
 |some x =>
  obtain⟨k1,hx⟩:=h1;cases hi with
  |none =>subst h2;simp only[Option.map_none,Option.map_some,Sem.run_bind,Sem.run_pure,Result.andThen_ok];rw[rU hx rfl (by omega)];rfl
  |some y =>obtain⟨k,hy⟩:=h2;simp only[Option.map_some,Sem.run_bind,Sem.run_pure,Result.andThen_ok];rw[rU hy rfl (by omega)];simp only[Result.andThen_ok];rw[rU hx rfl (by omega)];rfl
theorem Hn{t e:TypeId}{x:Value}{lo hi mx:Option Value}(hu:P.underlying t=some (.slice e)):(Instr.sliceAt t x lo hi mx).run P w=(Instr.slice t x lo hi mx).run P w:=by unfold Instr.sliceAt;rw[agc,run_underlying hu,afR]
theorem q7{t e:TypeId}{de:TD}{ao:Option Addr}{len cap l u:Nat}{lo hi:Option Operand}(hu:P.underlying t=some (.slice e))(hd:pJ P e de)
  (hb:(Instr.sliceBounds true len cap (lo.map a.eval) (hi.map a.eval) none).run P w = .ok (l,u,cap) w) :
  (Instr.sliceAt t (.slice ao len cap) (lo.map a.eval) (hi.map a.eval) none).run P w = .ok (.slice (if cap=l then ao else ao.map (·.add (l*de.size))) (u-l) (cap-l)) w:=by
 rw[Hn hu];unfold Instr.slice;rw[agc,run_underlying hu,afR];simp only[Sem.run_bind,hb,Result.andThen_ok,hd.run_sizeOf w,Sem.run_pure]
theorem Js{t:TypeId}{s:ByteArray}{l u:Nat}{lo hi:Option Operand}(hu:P.underlying t=some .string)
  (hb:(Instr.sliceBounds false s.size s.size (lo.map a.eval) (hi.map a.eval) none).run P w = .ok (l,u,s.size) w) :
  (Instr.sliceAt t (.string s) (lo.map a.eval) (hi.map a.eval) none).run P w = .ok (.string (s.extract l u)) w:=by
 unfold Instr.sliceAt;rw[agc,run_underlying hu,afR];show(Instr.slice t (.string s) (lo.map a.eval) (hi.map a.eval) none).run P w=_;unfold Instr.slice;rw[agc,run_underlying hu,afR];simp[hb,Result.andThen_ok]
theorem Ho{t:TypeId}{x:Operand}{lo hi mx:Option Operand}(hT:n8 P T)(hp:Af a w β L I aG ρ)(ar:bW T aG dst (.slice t x lo hi mx) ρ h=some res)(bT:dK res.ob) :
  dc P ⟨dst,.slice t x lo hi mx,ty,pos,after,guard⟩ a β L I w res:=by
 simp only[bW] at ar;have Nv:∀(o:Option Operand) (Q2:Nat) (k:IntKind) (n:Int) (m:Nat),NV ρ o (.pv (.int .i64 (Q2:Int)))=some (.pv (.int k n))→n=(m:Int)→TT a o Q2 m:=by
  intro o Q2 k n m ho hn;cases o with
  |none =>
   injection ho with ho;injection ho with ho;injection ho with _ ho
   show m=Q2;omega
  |some y=>exact⟨k,by rw[←hn];exact tm (hp.ev y _ ho)⟩
 split at ar
 ·rename_i d e l u xs hd hx;split at ar
  ·rename_i el hk;obtain⟨un,hu,_,hf⟩:=(hT t d hd).under;rw[hk] at hf;have hf:un = .slice el:=hf;subst hf;split at ar
   ·rename_i de r off len sz oW;cases lT:Nat.beq de.size sz with
    |false=>simp[lT] at ar
    |true =>
     simp only[lT,cond_true] at ar;have Fj:de.size=sz:=ag0 lT;split at ar
     ·rename_i k1 n1 k2 n2 h1 h2;simp only[wU] at ar;split at ar
      ·injection ar with ar;subst ar
       obtain⟨g1,bT⟩:=bT.cons;obtain⟨g2,bT⟩:=bT.cons;obtain⟨g3,bT⟩:=bT.cons;obtain⟨g4,g5⟩:=bT.cons;have g5:u≤len:=g5;obtain⟨Wt,Fk|⟨b,c,ot,hv,Q3,eln,nn,D7,q8⟩⟩:=hp.ev x _ hx
       ·obtain⟨SM,rfl,hv⟩:=Fk;have Q5:u=0:=by omega
        have Hp:l=0:=by omega
        subst Q5;subst Hp;have hb:=gA (bb:=true) (P:=P) (w:=w) (a:=a) (lo:=lo) (hi:=hi) (len:=0) (cap:=0) (l:=0) (u:=0) (afY _) g4 g5 (Nv lo 0 k1 n1 0 h1 g1) (Nv hi 0 k2 n2 0 h2 g2);have hr:=q7 (ao:=none) hu (hT el de oW) hb;exact dc.pure (e := .row _ _ _ _) (cv rfl (by rw[hv];exact hr)) ⟨Wt,.inl ⟨SM,rfl,rfl⟩⟩
       have hb:=gA (bb:=true) (P:=P) (w:=w) (a:=a) (lo:=lo) (hi:=hi) (len:=len) (cap:=c) (l:=l) (u:=u) Q3 g4 g5 (Nv lo 0 k1 n1 l h1 g1) (Nv hi len k2 n2 u h2 g2);have hr:=q7 (ao:=some ⟨b,off,none⟩) hu (hT el de oW) hb;refine dc.pure (e := .row _ _ _ _) (cv rfl (by rw[hv];exact hr)) ⟨Wt,.inr ⟨b,c-l,ot,?_,by omega,eln,nn,D7,?_⟩⟩
       ·rw[Fj];rcases g3 with g3|g3
        ·subst g3;simp only[Nat.zero_mul,Nat.add_zero,Nat.sub_zero];rw[N0];split<;>rfl
        ·rw[ag7 (by omega)];simp only[Option.map_some];rw[gD]
       ·rw[Nat.sub_mul];have:l*sz≤c*sz:=afU _ (by omega);omega
      ·injection ar with ar;subst ar
       obtain⟨g1,bT⟩:=bT.cons;obtain⟨g2,bT⟩:=bT.cons;obtain⟨g4,g5⟩:=bT.cons;have g5:u≤len:=g5;have g4:l=u:=g4;subst g4;obtain⟨Wt,Fk|⟨b,c,ot,hv,Q3,_⟩⟩:=hp.ev x _ hx
       ·obtain⟨SM,rfl,hv⟩:=Fk;have Hp:l=0:=by omega
        subst Hp;have hb:=gA (bb:=true) (P:=P) (w:=w) (a:=a) (lo:=lo) (hi:=hi) (len:=0) (cap:=0) (l:=0) (u:=0) (afY _) (afY _) g5 (Nv lo 0 k1 n1 0 h1 g1) (Nv hi 0 k2 n2 0 h2 g2);have hr:=q7 (ao:=none) hu (hT el de oW) hb;exact dc.pure (e := .pv (.list [])) (cv rfl (by rw[hv];exact hr)) (Rd.nil _ _)
       ·have hb:=gA (bb:=true) (P:=P) (w:=w) (a:=a) (lo:=lo) (hi:=hi) (len:=len) (cap:=c) (l:=l) (u:=l) Q3 (afY _) g5 (Nv lo 0 k1 n1 l h1 g1) (Nv hi len k2 n2 l h2 g2);have hr:=q7 (ao:=some ⟨b,off,none⟩) hu (hT el de oW) hb;refine dc.pure (e := .pv (.list [])) (cv rfl (by rw[hv];exact hr)) ?_;rw[aiq];exact Rd.nil _ _
     ·cases ar
   ·rename_i de ys oW;split at ar
    ·rename_i k1 n1 k2 n2 h1 h2;simp only[wU] at ar;injection ar with ar;subst ar
     obtain⟨g1,bT⟩:=bT.cons;obtain⟨g2,bT⟩:=bT.cons;obtain⟨g3,bT⟩:=bT.cons;obtain⟨g4,bT⟩:=bT.cons;obtain⟨g5,g6⟩:=bT.cons;subst g5;have hr:Rd I w (.list ys) (a.eval x):=hp.ev x _ hx;have b1:=Nv lo 0 k1 n1 l h1 g1;have b2:=Nv hi ys.length k2 n2 u h2 g2;generalize u7:a.eval x=v at hr;have KO:∃ao c,v = .slice ao ys.length c∧ys.length≤c:=by
      cases hr with
      |nil ao c=>exact⟨ao,c,rfl,ago _⟩
      |list _ b o c s f hc=>exact⟨_,c,rfl,hc⟩
     obtain⟨ao,c,rfl,hc⟩:=KO;have hb:=gA (bb:=true) (P:=P) (w:=w) (a:=a) (lo:=lo) (hi:=hi) (len:=ys.length) (cap:=c) (l:=l) (u:=u) hc g3 g4 b1 b2;exact dc.pure (e := .pv _) (cv rfl (by rw[u7];exact q7 hu (hT el de oW) hb)) (TS hr g3 g4 g6)
    ·cases ar
   ·cases ar
  ·rename_i hk;obtain⟨un,hu,_,hf⟩:=(hT t d hd).under;rw[hk] at hf;have hf:un = .string:=hf;subst hf;split at ar
   ·rename_i bs;split at ar
    ·rename_i k1 n1 k2 n2 h1 h2;injection ar with ar;subst ar
     obtain⟨g1,bT⟩:=bT.cons;obtain⟨g2,bT⟩:=bT.cons;obtain⟨g3,g4⟩:=bT.cons;have g4:u≤bs.size:=g4;have hv:a.eval x = .string bs:=by have hr:Rd I w (.str bs) (a.eval x):=hp.ev x _ hx;generalize a.eval x=v at hr;cases hr;rfl
     have hb:=gA (P:=P) (w:=w) (a:=a) (lo:=lo) (hi:=hi) (len:=bs.size) (cap:=bs.size) (l:=l) (u:=u) (bb:=false) (afY _) g3 g4 (Nv lo 0 k1 n1 l h1 g1) (Nv hi bs.size k2 n2 u h2 g2);exact dc.pure (e := .pv _) (cv rfl (by rw[hv];exact Js hu hb)) (.str _)
    ·cases ar
   ·cases ar
  ·cases ar
 ·cases ar
end
end Go.Proofs.YtcpnocgollpbhaaGreatDoor.Sym
