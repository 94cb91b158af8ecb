/- Lemmas for the statements of this seat. -/
import Derived.Test.YtcpnocgollpbhaaGreatDoorW14
namespace Go.Proofs.YtcpnocgollpbhaaGreatDoor.Sym
open Go Go.RowKit
inductive dJ where
 |code (c:Code)
 |CQ (id:Nat)
 |tV (c:Code)
def rL(P:Program)(c:Code)(Q:Exit→Act→World→Prop)(a:Act)(w:World):Prop :=
 ∀(b:Frame) (k:List Item) (cs:List Frame),
  ∃e a' w',Q e a' w'∧Arrives P (lone (b.at a (.code c :: .inLoop c::k)) cs w) b k cs e a' w'
def zS(P:Program)(fn:Func)(R:Ending→World→Prop):List dJ→Exit→Act→World→Prop
 |[],e,a,w=>bodyPost P fn R e a w
 |.code c::K,.normal,a,w=>c.wp P (zS P fn R K) a w
 |.code _::K,e,a,w=>zS P fn R K e a w
 |.CQ id::K,.exit id',a,w=>if id'=id then zS P fn R K .normal a w else zS P fn R K (.exit id') a w
 |.CQ _::K,e,a,w=>zS P fn R K e a w
 |.tV c::K,.normal,a,w=>rL P c (zS P fn R K) a w
 |.tV _::K,e,a,w=>zS P fn R K e a w
def Sat(P:Program)(fn:Func)(Γ:Ctx)(R:Ending→World→Prop)(K:List dJ)(s:St):Prop :=
 ∀a w,Rel Γ s a w→zS P fn R K .normal a w
section
variable {P:Program} {T:lh} {fn:Func} {Γ:Ctx} {R:Ending→World→Prop} {K:List dJ} {s s':St} {a:Act} {w:World}
theorem rL.wp{c:Code}{Q:Exit→Act→World→Prop}(h:rL P c Q a w):(Code.loop c).wp P Q a w:=by intro b k cs;obtain⟨e,a',w',hq,Ir⟩:=h b k cs;exact⟨e,a',w',hq,.of_steps (.one step_loop) Ir⟩
theorem rL.round{c:Code}{Q:Exit→Act→World→Prop}(h:c.wp P (Exit.then (rL P c Q) Q) a w):rL P c Q a w:=by
 intro b k cs;obtain⟨e,a₁,w₁,hq,Ir⟩:=h b (.inLoop c::k) cs;cases e with
 |normal =>obtain⟨e₂,a₂,w₂,W6,RU⟩:=hq b k cs;exact⟨e₂,a₂,w₂,W6,.of_steps (Steps.trans Ir (.one step_inLoop)) RU⟩
 |exit id=>exact⟨_,a₁,w₁,hq,.pass (x := .inLoop c) rfl (fun _ _ => .inl (by simp)) Ir⟩
 |goto l=>exact⟨_,a₁,w₁,hq,.pass (x := .inLoop c) rfl (fun _ _ => .inl (by simp)) Ir⟩
 |ret=>exact⟨_,a₁,w₁,hq,.pass (x := .inLoop c) rfl (fun _ _ => .inl (by simp)) Ir⟩
 |panic ch=>exact⟨_,a₁,w₁,hq,.pass (x := .inLoop c) rfl (fun _ _ => .inl (by simp)) Ir⟩
 |outgrown=>exact⟨_,a₁,w₁,hq,.pass (x := .inLoop c) rfl (fun _ _ => .inl (by simp)) Ir⟩
theorem then_eq{c:Code} : Exit.then (zS P fn R (.code c::K) .normal) (zS P fn R K)=zS P fn R (.code c::K):=by funext e a w;cases e<;>rfl
theorem O1{id:Nat} : Exit.inBlock id (zS P fn R K)=zS P fn R (.CQ id::K):=by funext e a w;cases e<;>rfl
theorem RV{c:Code} : Exit.then (rL P c (zS P fn R K)) (zS P fn R K)=zS P fn R (.tV c::K):=by funext e a w;cases e<;>rfl
theorem Sat.round{c:Code}(h:Sat P fn Γ R (.code c :: .tV c::K) s):Sat P fn Γ R (.tV c::K) s:=by intro a w hr;have:=h a w hr;show rL P c (zS P fn R K) a w;refine rL.round ?_;rw[RV];exact this
theorem Sat.loop{c:Code}(h:Sat P fn Γ R (.tV c::K) s):Sat P fn Γ R (.code (.loop c)::K) s:=by intro a w hr;exact rL.wp (h a w hr)
def unwind(id:Nat):List dJ→Option (List dJ)
 |[]=>none
 |.CQ id'::K=>bif Nat.beq id' id then some K else unwind id K
 |_::K=>unwind id K
theorem sR{id:Nat} : ∀{K K':List dJ},unwind id K=some K'→zS P fn R K' .normal a w→zS P fn R K (.exit id) a w
 |[],K',h,_=>by cases h
 |.code c::K,K',h,hs=>sR (K:=K) h hs
 |.tV k::K,K',h,hs=>sR (K:=K) h hs
 |.CQ id'::K,K',h,hs=>by
  simp only[unwind] at h;simp only[zS];cases hb:Nat.beq id' id with
  |true =>
   have:id'=id:=afB hb;subst this;simp only[hb,cond_true] at h;injection h with h;subst h
   rw[afI rfl];exact hs
  |false =>simp only[hb,cond_false] at h;rw[afG (fun e=>by subst e;simp at hb)];exact sR h hs
theorem BN:∀(K:List dJ),bodyPost P fn R .ret a w→zS P fn R K .ret a w
 |[],h=>h
 |.code _::K,h=>BN K h
 |.CQ _::K,h=>BN K h
 |.tV _::K,h=>BN K h
def CR(T:lh)(s:St):List ResultVar→Option (List EV)
 |[]=>some []
 |.tmp t::r=>match s.env.get t,CR T s r with
  |some e,some es=>some (e::es)
  |_,_=>none
 |.cell x t::r=>match s.env.get x,T.get t,CR T s r with
  |some (.ptr q off),some d,some es=>match s.aK.get q with
   |some sc=>match Gb d sc.sG off .none with
    |some res=>match res.ob with
     |[]=>some (res.val::es)
     |_=>none
    |none=>none
   |none=>none
  |_,_,_=>none
def Kp(β:Nat→Option Nat)(L I:Nat→Prop)(w:World):List EV→List Value→Prop
 |[],[]=>True
 |e::es,v::vs=>RE β L I w e v∧Kp β L I w es vs
 |_,_=>False
theorem uv(hT:oE P T){β:Nat→Option Nat}{I:Nat→Prop}(hr:dz Γ s a w β I):∀(l:List ResultVar) (es:List EV),CR T s l=some es →
  ∃vs,(l.mapM (fun | .tmp t=>pure (a.tmps.getD t undef) | .cell x t=>do loadVar t (←asAddr (a.tmps.getD x undef)):ResultVar→Sem Value)).run P w = .ok vs w∧Kp β (bK s.aK) I w es vs
 |[],es,h=>by injection h with h;subst h;exact⟨[],rfl,trivial⟩
 |.tmp t::r,es,h=>by
  simp only[CR] at h;split at h
  ·rename_i e WA he N7;injection h with h;subst h
   obtain⟨vs,h1,h2⟩:=uv hT hr r WA N7;refine⟨a.tmps.getD t undef::vs,?_,hr.env t e he,h2⟩;rw[ajn,afL,agq,aft,afL,h1];rfl
  ·cases h
 |.cell x t::r,es,h=>by
  simp only[CR] at h;split at h
  ·rename_i q off d WA he hd N7;split at h
   ·rename_i sc pk;split at h
    ·rename_i res pG;split at h
     ·rename_i cv;injection h with h;subst h
      obtain⟨vs,h1,h2⟩:=uv hT hr r WA N7;obtain⟨zH,b,hb,hv⟩:=hr.env x _ he;obtain⟨v,g1,g2,_⟩:=E1 (hT t d hd) ((hr.aK.1 q sc pk).1) hb pG (by rw[cv];trivial);refine⟨v::vs,?_,g2,h2⟩;have ha:(asAddr (a.tmps.getD x undef)).run P w = .ok ⟨b,off,none⟩ w:=by rw[hv];rfl
      rw[ajn,afL,afL,ha,aft,g1,aft,afL,h1];rfl
     ·cases h
    ·cases h
   ·cases h
  ·cases h
def qN:List EV→Option (List PV)
 |[]=>some []
 |.pv p::r=>match qN r with
  |some ps=>some (p::ps)
  |none=>none
 |_=>none
def LG:List EV→Option EV
 |[e]=>some e
 |.row r off len sz::es=>match qN es with
  |some ps=>some (.oZ r off len sz ps)
  |none=>none
 |es=>match qN es with
  |some ps=>some (.pv (.aF ps))
  |none=>none
theorem zT{β:Nat→Option Nat}{L I:Nat→Prop} : ∀(es:List EV) (ps:List PV) (vs:List Value),qN es=some ps→Kp β L I w es vs→ps.length=vs.length∧∀(j:Nat) p v,ps[j]? = some p→vs[j]? = some v→Rd I w p v
 |[],ps,[],h,_=>by injection h with h;subst h;exact⟨rfl,fun j p v hp=>by simp at hp⟩
 |.pv p::r,ps,v::vs,h,hr=>by
  simp only[qN] at h;split at h
  ·rename_i qs hq;injection h with h;subst h
   obtain⟨h1,h2⟩:=zT r qs vs hq hr.2;refine⟨by simp[h1],fun j q u hj hu => ?_⟩;cases j with
   |zero=>simp at hj hu;subst hj hu;exact hr.1
   |succ j=>exact h2 j q u (by simpa using hj) (by simpa using hu)
  ·cases h
 |.pv p::r,ps,[],h,hr=>hr.elim
 |[],ps,_::_,h,hr=>hr.elim
 |.ptr _ _::_,ps,_,h,_=>by simp[qN] at h
 |.row _ _ _ _::_,ps,_,h,_=>by simp[qN] at h
 |.oY _::_,ps,_,h,_=>by simp[qN] at h
 |.dead::_,ps,_,h,_=>by simp[qN] at h
 |.oZ _ _ _ _ _::_,ps,_,h,_=>by simp[qN] at h
 |.BI _ _::_,ps,_,h,_=>by simp[qN] at h
 |.jB _ _ _::_,ps,_,h,_=>by simp[qN] at h
 |.oD _ _::_,ps,_,h,_=>by simp[qN] at h
 |.nC _::_,ps,_,h,_=>by simp[qN] at h
theorem EF(hT:oE P T){β:Nat→Option Nat}{I:Nat→Prop}(hr:dz Γ s a w β I){es:List EV}{e:EV}(h1:CR T s fn.results.toList=some es)(h2:LG es=some e) :
  ∃v,(results fn a.tmps).run P w = .ok v w∧RE β (bK s.aK) I w e v:=by
 obtain⟨vs,hm,kT⟩:=uv hT hr _ es h1;have Zp:(fn.results.mapM (fun | .tmp t=>pure (a.tmps.getD t undef) | .cell x t=>do loadVar t (←asAddr (a.tmps.getD x undef)):ResultVar→Sem Value)).run P w = .ok vs.toArray w:=by
  rw[←aj8] at hm;rw[Sem.run_map] at hm;cases hx:(fn.results.mapM (fun | .tmp t=>pure (a.tmps.getD t undef) | .cell x t=>do loadVar t (←asAddr (a.tmps.getD x undef)):ResultVar→Sem Value)).run P w with
  |halt e' w'=>rw[hx] at hm;cases hm
  |ok x w' =>
   rw[hx] at hm;simp only[Result.andThen_ok,Result.ok.injEq] at hm;obtain⟨g1,rfl⟩:=hm
   congr 1
   apply ais;simpa using g1
 have pG:(results fn a.tmps).run P w = .ok (if h:vs.toArray.size=1 then vs.toArray[0] else .tuple vs.toArray) w:=by unfold results;rw[afL];exact agK (fun r=>Result.andThen r (fun vs w'=>(Pure.pure (if h:vs.size=1 then vs[0] else .tuple vs):Sem Value).run P w')) Zp
 refine⟨_,pG,?_⟩
 match es,vs,kT,h2 with
 |[e'],[v],kT,h2 =>
  have h2:some e'=some e:=h2;injection h2 with h2;subst h2
  simpa using kT.1
 |[],[],_,h2 =>
  have h2:some (EV.pv (PV.aF []))=some e:=h2;injection h2 with h2;subst h2
  exact Rd.aF [] #[] rfl (fun j c u hc=>by simp at hc)
 |e1::e2::WA,v1::v2::vs',kT,h2 =>
  have mg:¬((v1::v2::vs').toArray.size=1):=by simp
  rw[dif_neg mg];cases e1 with
  |row r off len sz =>
   simp only[LG] at h2;split at h2
   ·rename_i ps o0;injection h2 with h2;subst h2
    obtain⟨g1,g2⟩:=zT _ _ _ o0 kT.2;refine⟨_,rfl,by simpa using g1.symm,⟨v1,by simp,kT.1⟩,fun j p u hp hu=>g2 j p u hp (by simpa using hu)⟩
   ·cases h2
  |_ =>
   simp only[LG] at h2;split at h2
   ·rename_i ps o0;injection h2 with h2;subst h2
    obtain⟨g1,g2⟩:=zT _ _ _ o0 kT;exact Rd.aF ps _ (by simpa using g1) (fun j c u hc hu=>g2 j c u hc (by simpa using hu))
   ·cases h2
 |[_],[],kT,_=>exact kT.elim
 |[_],_::_::_,kT,_=>exact kT.2.elim
 |[],_::_,kT,_=>exact kT.elim
 |_::_::_,[],kT,_=>exact kT.elim
 |_::_::_,[_],kT,_=>exact kT.2.elim
end
end Go.Proofs.YtcpnocgollpbhaaGreatDoor.Sym
