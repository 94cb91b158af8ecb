/- Lemmas for the statements of this seat. -/
import Derived.Test.YtcpnocgollpbhaaGreatDoorW23
namespace Go.Proofs.YtcpnocgollpbhaaGreatDoor.Sym
open Go
abbrev Words:=List UInt32
def ah(n:UInt32):List PV:=[.int .u32 (n.toNat:Int)]
abbrev af(l:Words):PV := .list (l.map ah)
def gF(n:Int):List PV:=[.int .i64 n]
def kf(s:ByteArray):List PV:=[.str s]
abbrev dp{α:Type}(enc:α→List PV)(l:List α):PV := .list (l.map enc)
def db{α:Type}(enc:α→List PV)(l:List α):List PV:=[dp enc l]
def bJ:Option Int→PV
 |none => .ay
 |some n => .iface 75 (.int .i64 n)
def aP(fn:Func):Code:=match fn.body with
 |some c=>c
 |none => .skip
theorem HW{fn:Func}(h:fn.body.isSome=true):fn.body=some (aP fn):=by
 unfold aP;cases hb:fn.body with
 |none=>rw[hb] at h;cases h
 |some c=>rfl
def focus:List Nat→List eR→List eR
 |[],K=>K
 |0::p,.code (.seq a b)::K=>focus p (.code a :: .code b::K)
 |0::p,.code (.block id c)::K=>focus p (.code c :: .BA id::K)
 |0::p,.code (.loop c)::K=>focus p (.ta c::K)
 |0::p,.ta c::K=>focus p (.code c :: .ta c::K)
 |0::p,.code (.cond _ a _)::K=>focus p (.code a::K)
 |1::p,.code (.cond _ _ b)::K=>focus p (.code b::K)
 |2::p,_::K=>focus p K
 |_,K=>K
def Le:List eR→Array Oper
 |.code (.region _ ops _)::_=>ops
 |_ => #[]
def rf(P:Program)(T:kL)(fn:Func)(m:List Nat)(fl:List Nat)(hs:List Hint)(s:St):Prop :=
 Ao P T fn.ntmps (Le (focus m [.code (aP fn)])) (JQ (Le (focus m [.code (aP fn)])) fl) (S1 (Le (focus m [.code (aP fn)])) fl) hs (Ru T fn.ntmps (Le (focus m [.code (aP fn)])) fl s)
def LX(P:Program)(fn:Func)(K:List eR)(s:St)(sin:aS)(r:EV)(sout:aS):Prop :=
 ∀Γ:Ctx,Γ.sin=sin→Γ.n=fn.ntmps→(∀b,Γ.I0 b→b<Γ.w0.heap.size)→wX Γ.β0 Γ.I0 Γ.w0 Γ.sin→Sat P fn Γ (tp sin sout r Γ.β0 Γ.I0 Γ.w0) K s
def L(P:Program)(fn:Func)(K:List eR)(s:St)(r:PV):Prop:=LX P fn K s [] (.pv r) []
def Uo:List Prop→Prop
 |[]=>True
 |p::ob=>p∧Uo ob
def OL:List Nat→List Prop→Prop
 |[],ob=>Uo ob
 |n::ns,ob=>dK (ob.take n)∧OL ns (ob.drop n)
theorem dK.join:∀{l m:List Prop},dK l→dK m→dK (l++m)
 |[],_,_,h=>h
 |[p],[],h,_=>h
 |[_],_::_,h,h2=>⟨h,h2⟩
 |_::q::r,m,h,h2=>by have h3:=dK.join (l:=q::r) h.2 h2;exact⟨h.1,h3⟩
theorem El:∀(ob:List Prop),Uo ob→dK ob
 |[],h=>h
 |[_],h=>h.1
 |_::q::ob,h=>⟨h.1,El (q::ob) h.2⟩
theorem ux:∀(ns:List Nat) (ob:List Prop),OL ns ob→dK ob
 |[],ob,h=>El ob h
 |n::ns,ob,h=>by have:=dK.join h.1 (ux ns _ h.2);rwa[ai0] at this
def FC(ns:List Nat):Option (Out×List Prop)→Option (PV×Prop)
 |some (.done (.pv p) _,ob)=>some (p,OL ns ob)
 |_=>none
def Em(ns:List Nat)(sin:aS):Option (Out×List Prop)→Option (EV×aS×Prop)
 |some (.done e s,ob)=>bif sin.all (fun p=>vJ p.1||(aS.get s.aG p.1).isSome) then some (e,s.aG,OL ns ob) else none
 |_=>none
def vS(ns:List Nat):Option (Out×List Prop)→Option (List eR×St×Prop)
 |some (.loop K s,ob)=>some (K,s,OL ns ob)
 |_=>none
def JR (fn : Func) (k : Nat) (sin : aS) : Bool := fn.body.isSome && !(fn.name == "runtime.NumGoroutine") && Nat.ble k fn.ntmps && sin.all (fun p => Nat.ble fn.ntmps p.1) && Nat.ble fn.ntmps 999999
theorem cj{a b:Prop}(h:a)(k:b):a∧b:=⟨h,k⟩
section
variable {P:Program} {T:kL} {fn:Func} {K:List eR} {s:St} {r:PV} {sin sout:aS} {rx:EV}
theorem OM{Γ:Ctx}(h:sin.all (fun p=>Nat.ble Γ.n p.1)=true):∀r,bB sin r→Γ.n≤r:=by
 intro r hr;obtain⟨sc,oP⟩:=agk.1 hr;rw[agy] at h;rcases aS.get_mem oP with hm|⟨hm,_⟩
 ·exact afS (h _ hm)
 ·have:=Γ.small;omega
theorem L.done(hm:P.follows .mixedOrders=true)(hT:n8 P T){n:Nat}{ns:List Nat}{tr:List TE}{A:Prop}(hA:A)(ar:FC ns (run P T fn n K s tr)=some (r,A)):L P fn K s r:=by
 intro Γ hs hn _ _;unfold FC at ar;split at ar
 ·rename_i p s' ob h;injection ar with ar;injection ar with h1 h2
  subst h1;subst h2;exact uw hm hT (fun r h=>by rw[hs] at h;exact absurd h pQ) hn n _ _ tr _ ob h (ux ns ob hA) (zD.pure hs rfl)
 ·cases ar
theorem LX.done(hm:P.follows .mixedOrders=true)(hT:n8 P T){n:Nat}{ns:List Nat}{tr:List TE}{A:Prop}(DD:sin.all (fun p=>Nat.ble fn.ntmps p.1)=true)(hA:A)(ar:Em ns sin (run P T fn n K s tr)=some (rx,sout,A)):LX P fn K s sin rx sout:=by
 intro Γ hs hn hI On;unfold Em at ar;split at ar
 ·rename_i e s' ob h;cases hb:sin.all (fun p=>vJ p.1||(aS.get s'.aG p.1).isSome) with
  |false=>simp[hb] at ar
  |true =>
   simp only[hb,cond_true] at ar;injection ar with ar;injection ar with h1 h2;injection h2 with h2 h3
   subst h1;subst h2;subst h3;subst hs;refine uw hm hT (OM (by rw[hn];exact DD)) hn n _ _ tr _ ob h (ux ns ob hA) (zD.sites hI On (fun x hx hg => ?_));obtain⟨sc,oP⟩:=agk.1 hx;rw[agy] at hb;have hm:(x,sc)∈Γ.sin:=by
    rcases aS.get_mem oP with hm|⟨hm,_⟩
    ·exact hm
    ·exact absurd (show gv x by unfold gv;omega) hg
   rcases aid _ _ ▸ hb _ hm with h|h
   ·exact absurd (afS h) hg
   ·exact h
 ·cases ar
theorem LX.W5(hm:P.follows .mixedOrders=true)(hT:n8 P T){n:Nat}{ns:List Nat}{tr:List TE}{A:Prop}(DD:sin.all (fun p=>Nat.ble fn.ntmps p.1)=true)(wL:sin.all (fun p=>vJ p.1||(aS.get sout p.1).isSome)=true)(hA:A)
  (ar:Em ns [] (run P T fn n K s tr)=some (rx,sout,A)):LX P fn K s sin rx sout:=by
 refine LX.done hm hT DD hA (n:=n) (ns:=ns) (tr:=tr) ?_;unfold Em at ar ⊢;split at ar
 ·rename_i e s' ob h;simp only[List.all_nil,cond_true] at ar;injection ar with ar;injection ar with h1 h2;injection h2 with h2 h3
  subst h1;subst h2;subst h3;simp only[wL,cond_true]
 ·cases ar
theorem LX.go(hm:P.follows .mixedOrders=true)(hT:n8 P T){n:Nat}{ns:List Nat}{tr:List TE}{A:Prop}{K':List eR}{s':St}(DD:sin.all (fun p=>Nat.ble fn.ntmps p.1)=true)(hA:A)(ar:vS ns (run P T fn n K s tr)=some (K',s',A))
  (h:LX P fn K' s' sin rx sout):LX P fn K s sin rx sout:=by
 intro Γ hs hn hI On;unfold vS at ar;split at ar
 ·rename_i K2 s2 ob h0;injection ar with ar;injection ar with h1 h2;injection h2 with h2 h3
  subst h1;subst h2;subst h3;have Z7:∀r,bB Γ.sin r→Γ.n≤r:=by subst hs;exact OM (by rw[hn];exact DD)
  exact uw hm hT Z7 hn n _ _ tr _ ob h0 (ux ns ob hA) (h Γ hs hn hI On)
 ·cases ar
theorem L.go(hm:P.follows .mixedOrders=true)(hT:n8 P T){n:Nat}{ns:List Nat}{tr:List TE}{A:Prop}{K':List eR}{s':St}(hA:A)(ar:vS ns (run P T fn n K s tr)=some (K',s',A))(h:L P fn K' s' r):L P fn K s r :=
 LX.go hm hT rfl hA ar h
theorem au.We{f:FuncId}{args:List EV}(hf:P.funcs[f]? = some fn)(o5:JR fn args.length sin=true)(h:LX P fn [.code (aP fn)] ⟨me 0 args,sin⟩ sin rx sout):au P f args sin rx sout:=by unfold JR at o5;simp only[Bool.and_eq_true,Bool.not_eq_true'] at o5;exact au.of hf (HW o5.1.1.1.1) o5.1.1.1.2 (afS o5.1.1.2) (afS o5.2) h
theorem eu.We{f:FuncId}{args:List PV}(hf:P.funcs[f]? = some fn)(o5:JR fn (args.map EV.pv).length []=true)(h:L P fn [.code (aP fn)] ⟨me 0 (args.map EV.pv),[]⟩ r):eu P f args r :=
 au.We hf o5 h
end
abbrev iI(n:Int):Hint := .pv (.int .i64 n)
abbrev iU(n:Nat):Hint := .pv (.int .u64 (n:Int))
abbrev iW(w:UInt32):Hint := .pv (.int .u32 (w.toNat:Int))
abbrev vI(n:Int):PV := .int .i64 n
abbrev vU(n:Nat):PV := .int .u64 (n:Int)
abbrev vW(w:UInt32):PV := .int .u32 (w.toNat:Int)
abbrev vB(b:Bool):PV := .bool b
abbrev eI(n:Int):EV := .pv (.int .i64 n)
abbrev eU(n:Nat):EV := .pv (.int .u64 (n:Int))
abbrev eW(w:UInt32):EV := .pv (.int .u32 (w.toNat:Int))
abbrev eB(b:Bool):EV := .pv (.bool b)
def dr(a b:Nat)(hs:List Hint):TE := .ZG [] (List.range a) (List.range' a b) hs
end Go.Proofs.YtcpnocgollpbhaaGreatDoor.Sym
