/- Lemmas for the statements of this seat. -/
import Derived.Test.YtneklnlpgfeplaaGreatW16
namespace Go.Proofs.YtneklnlpgfeplaaGreat.Sym
open Go Go.RowKit
inductive eh where
 |code (c:Code)
 |rk (id:Nat)
 |lJ (c:Code)
def qi(P:Program)(c:Code)(Q:Exit→Act→World→Prop)(a:Act)(w:World):Prop :=
 ∀(b:Frame) (k:List Item) (cs:List Frame),
  ∃e a' w',Q e a' w'∧Arrives P (lone (b.at a (.code c :: .inLoop c::k)) cs w) b k cs e a' w'
def xB(P:Program)(fn:Func)(R:Ending→World→Prop):List eh→Exit→Act→World→Prop
 |[],e,a,w=>bodyPost P fn R e a w
 |.code c::K,.normal,a,w=>c.wp P (xB P fn R K) a w
 |.code _::K,e,a,w=>xB P fn R K e a w
 |.rk id::K,.exit id',a,w=>if id'=id then xB P fn R K .normal a w else xB P fn R K (.exit id') a w
 |.rk _::K,e,a,w=>xB P fn R K e a w
 |.lJ c::K,.normal,a,w=>qi P c (xB P fn R K) a w
 |.lJ _::K,e,a,w=>xB P fn R K e a w
def Sat(P:Program)(fn:Func)(Γ:Ctx)(R:Ending→World→Prop)(K:List eh)(s:St):Prop :=
 ∀a w,Rel Γ s a w→xB P fn R K .normal a w
section
variable {P:Program} {T:ja} {fn:Func} {Γ:Ctx} {R:Ending→World→Prop} {K:List eh} {s s':St} {a:Act} {w:World}
theorem qi.wp{c:Code}{Q:Exit→Act→World→Prop}(h:qi P c Q a w):(Code.loop c).wp P Q a w:=by intro b k cs;obtain⟨e,a',w',hq,ri⟩:=h b k cs;exact⟨e,a',w',hq,.of_steps (.one step_loop) ri⟩
theorem qi.round{c:Code}{Q:Exit→Act→World→Prop}(h:c.wp P (Exit.then (qi P c Q) Q) a w):qi P c Q a w:=by
 intro b k cs;obtain⟨e,a₁,w₁,hq,ri⟩:=h b (.inLoop c::k) cs;cases e with
 |normal =>obtain⟨e₂,a₂,w₂,Km,DB⟩:=hq b k cs;exact⟨e₂,a₂,w₂,Km,.of_steps (Steps.trans ri (.one step_inLoop)) DB⟩
 |exit id=>exact⟨_,a₁,w₁,hq,.pass (x := .inLoop c) rfl (fun _ _ => .inl (by simp)) ri⟩
 |goto l=>exact⟨_,a₁,w₁,hq,.pass (x := .inLoop c) rfl (fun _ _ => .inl (by simp)) ri⟩
 |ret=>exact⟨_,a₁,w₁,hq,.pass (x := .inLoop c) rfl (fun _ _ => .inl (by simp)) ri⟩
 |panic ch=>exact⟨_,a₁,w₁,hq,.pass (x := .inLoop c) rfl (fun _ _ => .inl (by simp)) ri⟩
 |outgrown=>exact⟨_,a₁,w₁,hq,.pass (x := .inLoop c) rfl (fun _ _ => .inl (by simp)) ri⟩
theorem then_eq{c:Code} : Exit.then (xB P fn R (.code c::K) .normal) (xB P fn R K)=xB P fn R (.code c::K):=by funext e a w;cases e<;>rfl
theorem Ko{id:Nat} : Exit.inBlock id (xB P fn R K)=xB P fn R (.rk id::K):=by funext e a w;cases e<;>rfl
theorem M5{c:Code} : Exit.then (qi P c (xB P fn R K)) (xB P fn R K)=xB P fn R (.lJ c::K):=by funext e a w;cases e<;>rfl
theorem Sat.round{c:Code}(h:Sat P fn Γ R (.code c :: .lJ c::K) s):Sat P fn Γ R (.lJ c::K) s:=by intro a w hr;have:=h a w hr;show qi P c (xB P fn R K) a w;refine qi.round ?_;rw[M5];exact this
theorem Sat.loop{c:Code}(h:Sat P fn Γ R (.lJ c::K) s):Sat P fn Γ R (.code (.loop c)::K) s:=by intro a w hr;exact qi.wp (h a w hr)
def unwind(id:Nat):List eh→Option (List eh)
 |[]=>none
 |.rk id'::K=>bif Nat.beq id' id then some K else unwind id K
 |_::K=>unwind id K
theorem rl{id:Nat} : ∀{K K':List eh},unwind id K=some K'→xB P fn R K' .normal a w→xB P fn R K (.exit id) a w
 |[],K',h,_=>by cases h
 |.code c::K,K',h,hs=>rl (K:=K) h hs
 |.lJ k::K,K',h,hs=>rl (K:=K) h hs
 |.rk id'::K,K',h,hs=>by
  simp only[unwind] at h;simp only[xB];cases hb:Nat.beq id' id with
  |true =>
   have:id'=id:=abO hb;subst this;simp only[hb,cond_true] at h;injection h with h;subst h
   rw[ac7 rfl];exact hs
  |false =>simp only[hb,cond_false] at h;rw[ac3 (fun e=>by subst e;simp at hb)];exact rl h hs
theorem zo:∀(K:List eh),bodyPost P fn R .ret a w→xB P fn R K .ret a w
 |[],h=>h
 |.code _::K,h=>zo K h
 |.rk _::K,h=>zo K h
 |.lJ _::K,h=>zo K h
def wB(T:ja)(s:St):List ResultVar→Option (List EV)
 |[]=>some []
 |.tmp t::r=>match s.env.get t,wB T s r with
  |some e,some es=>some (e::es)
  |_,_=>none
 |.cell x t::r=>match s.env.get x,T.get t,wB T s r with
  |some (.ptr q off),some d,some es=>match s.aP.get q with
   |some sc=>match Dp d sc.oe off .none with
    |some res=>match res.ob with
     |[]=>some (res.val::es)
     |_=>none
    |none=>none
   |none=>none
  |_,_,_=>none
def GA(β:Nat→Option Nat)(L I:Nat→Prop)(w:World):List EV→List Value→Prop
 |[],[]=>True
 |e::es,v::vs=>RE β L I w e v∧GA β L I w es vs
 |_,_=>False
theorem td(hT:mm P T){β:Nat→Option Nat}{I:Nat→Prop}(hr:dh Γ s a w β I):∀(l:List ResultVar) (es:List EV),wB T s l=some es →
  ∃vs,(l.mapM (fun | .tmp t=>pure (a.tmps.getD t undef) | .cell x t=>do loadVar t (←asAddr (a.tmps.getD x undef)):ResultVar→Sem Value)).run P w = .ok vs w∧GA β (bz s.aP) I w es vs
 |[],es,h=>by injection h with h;subst h;exact⟨[],rfl,trivial⟩
 |.tmp t::r,es,h=>by
  simp only[wB] at h;split at h
  ·rename_i e HV he Cs;injection h with h;subst h
   obtain⟨vs,h1,h2⟩:=td hT hr r HV Cs;refine⟨a.tmps.getD t undef::vs,?_,hr.env t e he,h2⟩;rw[afk,abU,acp,abN,abU,h1];rfl
  ·cases h
 |.cell x t::r,es,h=>by
  simp only[wB] at h;split at h
  ·rename_i q off d HV he hd Cs;split at h
   ·rename_i sc gS;split at h
    ·rename_i res mq;split at h
     ·rename_i cf;injection h with h;subst h
      obtain⟨vs,h1,h2⟩:=td hT hr r HV Cs;obtain⟨we,b,hb,hv⟩:=hr.env x _ he;obtain⟨v,g1,g2,_⟩:=Cr (hT t d hd) ((hr.aP.1 q sc gS).1) hb mq (by rw[cf];trivial);refine⟨v::vs,?_,g2,h2⟩;have ha:(asAddr (a.tmps.getD x undef)).run P w = .ok ⟨b,off,none⟩ w:=by rw[hv];rfl
      rw[afk,abU,abU,ha,abN,g1,abN,abU,h1];rfl
     ·cases h
    ·cases h
   ·cases h
  ·cases h
def np:List EV→Option (List PV)
 |[]=>some []
 |.pv p::r=>match np r with
  |some ps=>some (p::ps)
  |none=>none
 |_=>none
def Cz:List EV→Option EV
 |[e]=>some e
 |.row r off len sz::es=>match np es with
  |some ps=>some (.jA r off len sz ps)
  |none=>none
 |.ptr r off::es=>match np es with
  |some ps=>some (.iu r off ps)
  |none=>none
 |es=>match np es with
  |some ps=>some (.pv (.bg ps))
  |none=>none
theorem ua{β:Nat→Option Nat}{L I:Nat→Prop} : ∀(es:List EV) (ps:List PV) (vs:List Value),np es=some ps→GA β L I w es vs→ps.length=vs.length∧∀(j:Nat) p v,ps[j]? = some p→vs[j]? = some v→Rd I w p v
 |[],ps,[],h,_=>by injection h with h;subst h;exact⟨rfl,fun j p v hp=>by simp at hp⟩
 |.pv p::r,ps,v::vs,h,hr=>by
  simp only[np] at h;split at h
  ·rename_i qs hq;injection h with h;subst h
   obtain⟨h1,h2⟩:=ua r qs vs hq hr.2;refine⟨by simp[h1],fun j q u hj hu => ?_⟩;cases j with
   |zero=>simp at hj hu;subst hj hu;exact hr.1
   |succ j=>exact h2 j q u (by simpa using hj) (by simpa using hu)
  ·cases h
 |.pv p::r,ps,[],h,hr=>hr.elim
 |[],ps,_::_,h,hr=>hr.elim
 |.ptr _ _::_,ps,_,h,_=>by simp[np] at h
 |.row _ _ _ _::_,ps,_,h,_=>by simp[np] at h
 |.mC _::_,ps,_,h,_=>by simp[np] at h
 |.dead::_,ps,_,h,_=>by simp[np] at h
 |.jA _ _ _ _ _::_,ps,_,h,_=>by simp[np] at h
 |.mD _ _::_,ps,_,h,_=>by simp[np] at h
 |.ig _ _ _::_,ps,_,h,_=>by simp[np] at h
 |.mE _ _::_,ps,_,h,_=>by simp[np] at h
 |.lz _::_,ps,_,h,_=>by simp[np] at h
 |.iu _ _ _::_,ps,_,h,_=>by simp[np] at h
 |.cM _ _ _::_,ps,_,h,_=>by simp[np] at h
theorem mZ(hT:mm P T){β:Nat→Option Nat}{I:Nat→Prop}(hr:dh Γ s a w β I){es:List EV}{e:EV}(h1:wB T s fn.results.toList=some es)(h2:Cz es=some e) :
  ∃v,(results fn a.tmps).run P w = .ok v w∧RE β (bz s.aP) I w e v:=by
 obtain⟨vs,hm,gW⟩:=td hT hr _ es h1;have Rn:(fn.results.mapM (fun | .tmp t=>pure (a.tmps.getD t undef) | .cell x t=>do loadVar t (←asAddr (a.tmps.getD x undef)):ResultVar→Sem Value)).run P w = .ok vs.toArray w:=by
  rw[←af3] at hm;rw[Sem.run_map] at hm;cases hx:(fn.results.mapM (fun | .tmp t=>pure (a.tmps.getD t undef) | .cell x t=>do loadVar t (←asAddr (a.tmps.getD x undef)):ResultVar→Sem Value)).run P w with
  |halt e' w'=>rw[hx] at hm;cases hm
  |ok x w' =>
   rw[hx] at hm;simp only[Result.andThen_ok,Result.ok.injEq] at hm;obtain⟨g1,rfl⟩:=hm
   congr 1
   apply adN;simpa using g1
 have mq:(results fn a.tmps).run P w = .ok (if h:vs.toArray.size=1 then vs.toArray[0] else .tuple vs.toArray) w:=by unfold results;rw[abU];exact aeI (fun r=>Result.andThen r (fun vs w'=>(Pure.pure (if h:vs.size=1 then vs[0] else .tuple vs):Sem Value).run P w')) Rn
 refine⟨_,mq,?_⟩
 match es,vs,gW,h2 with
 |[e'],[v],gW,h2 =>
  have h2:some e'=some e:=h2;injection h2 with h2;subst h2
  simpa using gW.1
 |[],[],_,h2 =>
  have h2:some (EV.pv (PV.bg []))=some e:=h2;injection h2 with h2;subst h2
  exact Rd.bg [] #[] rfl (fun j c u hc=>by simp at hc)
 |e1::e2::HV,v1::v2::Yr,gW,h2 =>
  have ji:¬((v1::v2::Yr).toArray.size=1):=by simp
  rw[dif_neg ji];cases e1 with
  |row r off len sz =>
   simp only[Cz] at h2;split at h2
   ·rename_i ps lB;injection h2 with h2;subst h2
    obtain⟨g1,g2⟩:=ua _ _ _ lB gW.2;refine⟨_,rfl,by simpa using g1.symm,⟨v1,by simp,gW.1⟩,fun j p u hp hu=>g2 j p u hp (by simpa using hu)⟩
   ·cases h2
  |ptr r off =>
   simp only[Cz] at h2;split at h2
   ·rename_i ps lB;injection h2 with h2;subst h2
    obtain⟨g1,g2⟩:=ua _ _ _ lB gW.2;refine⟨_,rfl,by simpa using g1.symm,⟨v1,by simp,gW.1⟩,fun j p u hp hu=>g2 j p u hp (by simpa using hu)⟩
   ·cases h2
  |_ =>
   simp only[Cz] at h2;split at h2
   ·rename_i ps lB;injection h2 with h2;subst h2
    obtain⟨g1,g2⟩:=ua _ _ _ lB gW;exact Rd.bg ps _ (by simpa using g1) (fun j c u hc hu=>g2 j c u hc (by simpa using hu))
   ·cases h2
 |[_],[],gW,_=>exact gW.elim
 |[_],_::_::_,gW,_=>exact gW.2.elim
 |[],_::_,gW,_=>exact gW.elim
 |_::_::_,[],gW,_=>exact gW.elim
 |_::_::_,[_],gW,_=>exact gW.2.elim
end
end Go.Proofs.YtneklnlpgfeplaaGreat.Sym
