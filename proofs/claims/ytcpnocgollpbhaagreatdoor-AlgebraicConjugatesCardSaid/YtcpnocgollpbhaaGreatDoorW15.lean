/- Lemmas for the statements of this seat. -/
import Derived.Test.YtcpnocgollpbhaaGreatDoorW14
namespace Go.Proofs.YtcpnocgollpbhaaGreatDoor.Sym
open Go Go.RowKit
inductive eR where
 |code (c:Code)
 |BA (id:Nat)
 |ta (c:Code)
def qK(P:Program)(c:Code)(Q:Exit→Act→World→Prop)(a:Act)(w:World):Prop :=
 ∀(b:Frame) (k:List Item) (cs:List Frame),
  ∃e a' w',Q e a' w'∧Arrives P (lone (b.at a (.code c :: .inLoop c::k)) cs w) b k cs e a' w'
def yw(P:Program)(fn:Func)(R:Ending→World→Prop):List eR→Exit→Act→World→Prop
 |[],e,a,w=>bodyPost P fn R e a w
 |.code c::K,.normal,a,w=>c.wp P (yw P fn R K) a w
 |.code _::K,e,a,w=>yw P fn R K e a w
 |.BA id::K,.exit id',a,w=>if id'=id then yw P fn R K .normal a w else yw P fn R K (.exit id') a w
 |.BA _::K,e,a,w=>yw P fn R K e a w
 |.ta c::K,.normal,a,w=>qK P c (yw P fn R K) a w
 |.ta _::K,e,a,w=>yw P fn R K e a w
def Sat(P:Program)(fn:Func)(Γ:Ctx)(R:Ending→World→Prop)(K:List eR)(s:St):Prop :=
 ∀a w,Rel Γ s a w→yw P fn R K .normal a w
section
variable {P:Program} {T:kL} {fn:Func} {Γ:Ctx} {R:Ending→World→Prop} {K:List eR} {s s':St} {a:Act} {w:World}
theorem qK.wp{c:Code}{Q:Exit→Act→World→Prop}(h:qK P c Q a w):(Code.loop c).wp P Q a w:=by intro b k cs;obtain⟨e,a',w',hq,HI⟩:=h b k cs;exact⟨e,a',w',hq,.of_steps (.one step_loop) HI⟩
theorem qK.round{c:Code}{Q:Exit→Act→World→Prop}(h:c.wp P (Exit.then (qK P c Q) Q) a w):qK P c Q a w:=by
 intro b k cs;obtain⟨e,a₁,w₁,hq,HI⟩:=h b (.inLoop c::k) cs;cases e with
 |normal =>obtain⟨e₂,a₂,w₂,WK,Rk⟩:=hq b k cs;exact⟨e₂,a₂,w₂,WK,.of_steps (Steps.trans HI (.one step_inLoop)) Rk⟩
 |exit id=>exact⟨_,a₁,w₁,hq,.pass (x := .inLoop c) rfl (fun _ _ => .inl (by simp)) HI⟩
 |goto l=>exact⟨_,a₁,w₁,hq,.pass (x := .inLoop c) rfl (fun _ _ => .inl (by simp)) HI⟩
 |ret=>exact⟨_,a₁,w₁,hq,.pass (x := .inLoop c) rfl (fun _ _ => .inl (by simp)) HI⟩
 |panic ch=>exact⟨_,a₁,w₁,hq,.pass (x := .inLoop c) rfl (fun _ _ => .inl (by simp)) HI⟩
 |outgrown=>exact⟨_,a₁,w₁,hq,.pass (x := .inLoop c) rfl (fun _ _ => .inl (by simp)) HI⟩
theorem then_eq{c:Code} : Exit.then (yw P fn R (.code c::K) .normal) (yw P fn R K)=yw P fn R (.code c::K):=by funext e a w;cases e<;>rfl
theorem Oq{id:Nat} : Exit.inBlock id (yw P fn R K)=yw P fn R (.BA id::K):=by funext e a w;cases e<;>rfl
theorem Rl{c:Code} : Exit.then (qK P c (yw P fn R K)) (yw P fn R K)=yw P fn R (.ta c::K):=by funext e a w;cases e<;>rfl
theorem Sat.round{c:Code}(h:Sat P fn Γ R (.code c :: .ta c::K) s):Sat P fn Γ R (.ta c::K) s:=by intro a w hr;have:=h a w hr;show qK P c (yw P fn R K) a w;refine qK.round ?_;rw[Rl];exact this
theorem Sat.loop{c:Code}(h:Sat P fn Γ R (.ta c::K) s):Sat P fn Γ R (.code (.loop c)::K) s:=by intro a w hr;exact qK.wp (h a w hr)
def unwind(id:Nat):List eR→Option (List eR)
 |[]=>none
 |.BA id'::K=>bif Nat.beq id' id then some K else unwind id K
 |_::K=>unwind id K
theorem rZ{id:Nat} : ∀{K K':List eR},unwind id K=some K'→yw P fn R K' .normal a w→yw P fn R K (.exit id) a w
 |[],K',h,_=>by cases h
 |.code c::K,K',h,hs=>rZ (K:=K) h hs
 |.ta k::K,K',h,hs=>rZ (K:=K) h hs
 |.BA id'::K,K',h,hs=>by
  simp only[unwind] at h;simp only[yw];cases hb:Nat.beq id' id with
  |true =>
   have:id'=id:=ag0 hb;subst this;simp only[hb,cond_true] at h;injection h with h;subst h
   rw[ag9 rfl];exact hs
  |false =>simp only[hb,cond_false] at h;rw[ag7 (fun e=>by subst e;simp at hb)];exact rZ h hs
theorem AA:∀(K:List eR),bodyPost P fn R .ret a w→yw P fn R K .ret a w
 |[],h=>h
 |.code _::K,h=>AA K h
 |.BA _::K,h=>AA K h
 |.ta _::K,h=>AA K h
def BB(T:kL)(s:St):List ResultVar→Option (List EV)
 |[]=>some []
 |.tmp t::r=>match s.env.get t,BB T s r with
  |some e,some es=>some (e::es)
  |_,_=>none
 |.cell x t::r=>match s.env.get x,T.get t,BB T s r with
  |some (.ptr q off),some d,some es=>match s.aG.get q with
   |some sc=>match Fg d sc.rI off .none with
    |some res=>match res.ob with
     |[]=>some (res.val::es)
     |_=>none
    |none=>none
   |none=>none
  |_,_,_=>none
def JG(β:Nat→Option Nat)(L I:Nat→Prop)(w:World):List EV→List Value→Prop
 |[],[]=>True
 |e::es,v::vs=>RE β L I w e v∧JG β L I w es vs
 |_,_=>False
theorem tD(hT:n8 P T){β:Nat→Option Nat}{I:Nat→Prop}(hr:df Γ s a w β I):∀(l:List ResultVar) (es:List EV),BB T s l=some es →
  ∃vs,(l.mapM (fun | .tmp t=>pure (a.tmps.getD t undef) | .cell x t=>do loadVar t (←asAddr (a.tmps.getD x undef)):ResultVar→Sem Value)).run P w = .ok vs w∧JG β (bB s.aG) I w es vs
 |[],es,h=>by injection h with h;subst h;exact⟨[],rfl,trivial⟩
 |.tmp t::r,es,h=>by
  simp only[BB] at h;split at h
  ·rename_i e Wb he Nu;injection h with h;subst h
   obtain⟨vs,h1,h2⟩:=tD hT hr r Wb Nu;refine⟨a.tmps.getD t undef::vs,?_,hr.env t e he,h2⟩;rw[ajN,agc,agT,afR,agc,h1];rfl
  ·cases h
 |.cell x t::r,es,h=>by
  simp only[BB] at h;split at h
  ·rename_i q off d Wb he hd Nu;split at h
   ·rename_i sc oP;split at h
    ·rename_i res oZ;split at h
     ·rename_i bT;injection h with h;subst h
      obtain⟨vs,h1,h2⟩:=tD hT hr r Wb Nu;obtain⟨yi,b,hb,hv⟩:=hr.env x _ he;obtain⟨v,g1,g2,_⟩:=D6 (hT t d hd) ((hr.aG.1 q sc oP).1) hb oZ (by rw[bT];trivial);refine⟨v::vs,?_,g2,h2⟩;have ha:(asAddr (a.tmps.getD x undef)).run P w = .ok ⟨b,off,none⟩ w:=by rw[hv];rfl
      rw[ajN,agc,agc,ha,afR,g1,afR,agc,h1];rfl
     ·cases h
    ·cases h
   ·cases h
  ·cases h
def pT:List EV→Option (List PV)
 |[]=>some []
 |.pv p::r=>match pT r with
  |some ps=>some (p::ps)
  |none=>none
 |_=>none
def KW:List EV→Option EV
 |[e]=>some e
 |.row r off len sz::es=>match pT es with
  |some ps=>some (.oy r off len sz ps)
  |none=>none
 |es=>match pT es with
  |some ps=>some (.pv (.aF ps))
  |none=>none
theorem yx{β:Nat→Option Nat}{L I:Nat→Prop} : ∀(es:List EV) (ps:List PV) (vs:List Value),pT es=some ps→JG β L I w es vs→ps.length=vs.length∧∀(j:Nat) p v,ps[j]? = some p→vs[j]? = some v→Rd I w p v
 |[],ps,[],h,_=>by injection h with h;subst h;exact⟨rfl,fun j p v hp=>by simp at hp⟩
 |.pv p::r,ps,v::vs,h,hr=>by
  simp only[pT] at h;split at h
  ·rename_i qs hq;injection h with h;subst h
   obtain⟨h1,h2⟩:=yx r qs vs hq hr.2;refine⟨by simp[h1],fun j q u hj hu => ?_⟩;cases j with
   |zero=>simp at hj hu;subst hj hu;exact hr.1
   |succ j=>exact h2 j q u (by simpa using hj) (by simpa using hu)
  ·cases h
 |.pv p::r,ps,[],h,hr=>hr.elim
 |[],ps,_::_,h,hr=>hr.elim
 |.ptr _ _::_,ps,_,h,_=>by simp[pT] at h
 |.row _ _ _ _::_,ps,_,h,_=>by simp[pT] at h
 |.ox _::_,ps,_,h,_=>by simp[pT] at h
 |.dead::_,ps,_,h,_=>by simp[pT] at h
 |.oy _ _ _ _ _::_,ps,_,h,_=>by simp[pT] at h
 |.Av _ _::_,ps,_,h,_=>by simp[pT] at h
 |.ji _ _ _::_,ps,_,h,_=>by simp[pT] at h
 |.n7 _ _::_,ps,_,h,_=>by simp[pT] at h
 |.mW _::_,ps,_,h,_=>by simp[pT] at h
theorem DG(hT:n8 P T){β:Nat→Option Nat}{I:Nat→Prop}(hr:df Γ s a w β I){es:List EV}{e:EV}(h1:BB T s fn.results.toList=some es)(h2:KW es=some e) :
  ∃v,(results fn a.tmps).run P w = .ok v w∧RE β (bB s.aG) I w e v:=by
 obtain⟨vs,hm,kC⟩:=tD hT hr _ es h1;have Zm:(fn.results.mapM (fun | .tmp t=>pure (a.tmps.getD t undef) | .cell x t=>do loadVar t (←asAddr (a.tmps.getD x undef)):ResultVar→Sem Value)).run P w = .ok vs.toArray w:=by
  rw[←ajz] at hm;rw[Sem.run_map] at hm;cases hx:(fn.results.mapM (fun | .tmp t=>pure (a.tmps.getD t undef) | .cell x t=>do loadVar t (←asAddr (a.tmps.getD x undef)):ResultVar→Sem Value)).run P w with
  |halt e' w'=>rw[hx] at hm;cases hm
  |ok x w' =>
   rw[hx] at hm;simp only[Result.andThen_ok,Result.ok.injEq] at hm;obtain⟨g1,rfl⟩:=hm
   congr 1
   apply aiU;simpa using g1
 have oZ:(results fn a.tmps).run P w = .ok (if h:vs.toArray.size=1 then vs.toArray[0] else .tuple vs.toArray) w:=by unfold results;rw[agc];exact ah8 (fun r=>Result.andThen r (fun vs w'=>(Pure.pure (if h:vs.size=1 then vs[0] else .tuple vs):Sem Value).run P w')) Zm
 refine⟨_,oZ,?_⟩
 match es,vs,kC,h2 with
 |[e'],[v],kC,h2 =>
  have h2:some e'=some e:=h2;injection h2 with h2;subst h2
  simpa using kC.1
 |[],[],_,h2 =>
  have h2:some (EV.pv (PV.aF []))=some e:=h2;injection h2 with h2;subst h2
  exact Rd.aF [] #[] rfl (fun j c u hc=>by simp at hc)
 |e1::e2::Wb,v1::v2::vs',kC,h2 =>
  have lT:¬((v1::v2::vs').toArray.size=1):=by simp
  rw[dif_neg lT];cases e1 with
  |row r off len sz =>
   simp only[KW] at h2;split at h2
   ·rename_i ps oz;injection h2 with h2;subst h2
    obtain⟨g1,g2⟩:=yx _ _ _ oz kC.2;refine⟨_,rfl,by simpa using g1.symm,⟨v1,by simp,kC.1⟩,fun j p u hp hu=>g2 j p u hp (by simpa using hu)⟩
   ·cases h2
  |_ =>
   simp only[KW] at h2;split at h2
   ·rename_i ps oz;injection h2 with h2;subst h2
    obtain⟨g1,g2⟩:=yx _ _ _ oz kC;exact Rd.aF ps _ (by simpa using g1) (fun j c u hc hu=>g2 j c u hc (by simpa using hu))
   ·cases h2
 |[_],[],kC,_=>exact kC.elim
 |[_],_::_::_,kC,_=>exact kC.2.elim
 |[],_::_,kC,_=>exact kC.elim
 |_::_::_,[],kC,_=>exact kC.elim
 |_::_::_,[_],kC,_=>exact kC.2.elim
end
end Go.Proofs.YtcpnocgollpbhaaGreatDoor.Sym
