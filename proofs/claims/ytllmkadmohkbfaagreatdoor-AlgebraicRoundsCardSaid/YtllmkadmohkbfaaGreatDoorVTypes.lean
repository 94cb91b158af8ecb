/- Lemmas for the statements of this seat. -/
import Derived.Test.YtllmkadmohkbfaaGreatDoorVSymU
namespace Go.Proofs.YtllmkadmohkbfaaGreatDoor.Sym
open Go
abbrev Words:=List UInt32
def ag(n:UInt32):List PV:=[.int .u32 (n.toNat:Int)]
abbrev aa(l:Words):PV := .list (l.map ag)
def gL(n:Int):List PV:=[.int .i64 n]
def jX(s:ByteArray):List PV:=[.str s]
abbrev dj{α:Type}(enc:α→List PV)(l:List α):PV := .list (l.map enc)
def aC{α:Type}(enc:α→List PV)(l:List α):List PV:=[dj enc l]
def bw:Option Int→PV
 |none => .az
 |some n => .iface 67 (.int .i64 n)
def ay(fn:Func):Code:=match fn.body with
 |some c=>c
 |none => .skip
theorem F5{fn:Func}(h:fn.body.isSome=true):fn.body=some (ay fn):=by
 unfold ay
 cases hb:fn.body with
 |none=>rw[hb] at h;cases h
 |some c=>rfl
def focus:List Nat→List eH→List eH
 |[],K=>K
 |0::p,.code (.seq a b)::K=>focus p (.code a :: .code b::K)
 |0::p,.code (.block id c)::K=>focus p (.code c :: .A6 id::K)
 |0::p,.code (.loop c)::K=>focus p (.sQ c::K)
 |0::p,.sQ c::K=>focus p (.code c :: .sQ c::K)
 |0::p,.code (.cond _ a _)::K=>focus p (.code a::K)
 |1::p,.code (.cond _ _ b)::K=>focus p (.code b::K)
 |2::p,_::K=>focus p K
 |_,K=>K
def bM:List eH→Array Oper
 |.code (.region _ ops _)::_=>ops
 |_ => #[]
def LX(P:Program)(fn:Func)(K:List eH)(s:St)(sin:aS)(r:EV)(sout:aS):Prop :=
 ∀Γ:Ctx,Γ.sin=sin→Γ.n=fn.ntmps→(∀b,Γ.I0 b→b<Γ.w0.heap.size)→wi Γ.β0 Γ.I0 Γ.w0 Γ.sin→Sat P fn Γ (sY sin sout r Γ.β0 Γ.I0 Γ.w0) K s
def L(P:Program)(fn:Func)(K:List eH)(s:St)(r:PV):Prop:=LX P fn K s [] (.pv r) []
def Mh:List Nat→List Prop→Prop
 |[],ob=>dP ob
 |n::ns,ob=>dP (ob.take n)∧Mh ns (ob.drop n)
theorem dP.join:∀{l m:List Prop},dP l→dP m→dP (l++m)
 |[],_,_,h=>h
 |[p],[],h,_=>h
 |[_],_::_,h,h2=>⟨h,h2⟩
 |_::q::r,m,h,h2=>by
  have h3:=dP.join (l:=q::r) h.2 h2
  exact⟨h.1,h3⟩
theorem ub:∀(ns:List Nat) (ob:List Prop),Mh ns ob→dP ob
 |[],_,h=>h
 |n::ns,ob,h=>by
  have:=dP.join h.1 (ub ns _ h.2)
  rwa[List.take_append_drop] at this
def El(ns:List Nat):Option (Out×List Prop)→Option (PV×Prop)
 |some (.done (.pv p) _,ob)=>some (p,Mh ns ob)
 |_=>none
def Df(ns:List Nat)(sin:aS):Option (Out×List Prop)→Option (EV×aS×Prop)
 |some (.done e s,ob)=>bif sin.all (fun p=>v7 p.1||(aS.get s.aG p.1).isSome) then some (e,s.aG,Mh ns ob) else none
 |_=>none
def vt(ns:List Nat):Option (Out×List Prop)→Option (List eH×St×Prop)
 |some (.loop K s,ob)=>some (K,s,Mh ns ob)
 |_=>none
def H6 (fn : Func) (k : Nat) (sin : aS) : Bool := fn.body.isSome && !(fn.name == "runtime.NumGoroutine") && Nat.ble k fn.ntmps && sin.all (fun p => Nat.ble fn.ntmps p.1) && Nat.ble fn.ntmps 999999
theorem cj{a b:Prop}(h:a)(k:b):a∧b:=⟨h,k⟩
section
variable {P:Program} {T:kL} {fn:Func} {K:List eH} {s:St} {r:PV} {sin sout:aS} {rx:EV}
theorem Mi{Γ:Ctx}(h:sin.all (fun p=>Nat.ble Γ.n p.1)=true):∀r,bS sin r→Γ.n≤r:=by
 intro r hr
 obtain⟨sc,pr⟩:=Option.isSome_iff_exists.1 hr
 rw[List.all_eq_true] at h
 rcases aS.get_mem pr with hm|⟨hm,_⟩
 ·exact Nat.le_of_ble_eq_true (h _ hm)
 ·have:=Γ.small;omega
theorem L.done(hm:P.follows .mixedOrders=true)(hT:nM P T){n:Nat}{ns:List Nat}{tr:List TE}{A:Prop}(hA:A)(aq:El ns (run P T fn n K s tr)=some (r,A)):L P fn K s r:=by
 intro Γ hs hn _ _
 unfold El at aq
 split at aq
 ·rename_i p s' ob h
  injection aq with aq;injection aq with h1 h2
  subst h1;subst h2
  exact ua hm hT (fun r h=>by rw[hs] at h;exact absurd h rG) hn n _ _ tr _ ob h (ub ns ob hA) (yR.pure hs rfl)
 ·cases aq
theorem LX.done(hm:P.follows .mixedOrders=true)(hT:nM P T){n:Nat}{ns:List Nat}{tr:List TE}{A:Prop}(CD:sin.all (fun p=>Nat.ble fn.ntmps p.1)=true)(hA:A)(aq:Df ns sin (run P T fn n K s tr)=some (rx,sout,A)):LX P fn K s sin rx sout:=by
 intro Γ hs hn hI LS
 unfold Df at aq
 split at aq
 ·rename_i e s' ob h
  cases hb:sin.all (fun p=>v7 p.1||(aS.get s'.aG p.1).isSome) with
  |false=>simp[hb] at aq
  |true =>
   simp only[hb,cond_true] at aq
   injection aq with aq;injection aq with h1 h2;injection h2 with h2 h3
   subst h1;subst h2;subst h3;subst hs
   refine ua hm hT (Mi (by rw[hn];exact CD)) hn n _ _ tr _ ob h (ub ns ob hA) (yR.sites hI LS (fun x hx hg => ?_))
   obtain⟨sc,pr⟩:=Option.isSome_iff_exists.1 hx
   rw[List.all_eq_true] at hb
   have hm:(x,sc)∈Γ.sin:=by
    rcases aS.get_mem pr with hm|⟨hm,_⟩
    ·exact hm
    ·exact absurd (show gv x by unfold gv;omega) hg
   rcases Bool.or_eq_true _ _ ▸ hb _ hm with h|h
   ·exact absurd (Nat.le_of_ble_eq_true h) hg
   ·exact h
 ·cases aq
theorem LX.TH(hm:P.follows .mixedOrders=true)(hT:nM P T){n:Nat}{ns:List Nat}{tr:List TE}{A:Prop}(CD:sin.all (fun p=>Nat.ble fn.ntmps p.1)=true)(AL:sin.all (fun p=>v7 p.1||(aS.get sout p.1).isSome)=true)(hA:A)
  (aq:Df ns [] (run P T fn n K s tr)=some (rx,sout,A)):LX P fn K s sin rx sout:=by
 refine LX.done hm hT CD hA (n:=n) (ns:=ns) (tr:=tr) ?_
 unfold Df at aq ⊢
 split at aq
 ·rename_i e s' ob h
  simp only[List.all_nil,cond_true] at aq
  injection aq with aq;injection aq with h1 h2;injection h2 with h2 h3
  subst h1;subst h2;subst h3
  simp only[AL,cond_true]
 ·cases aq
theorem LX.go(hm:P.follows .mixedOrders=true)(hT:nM P T){n:Nat}{ns:List Nat}{tr:List TE}{A:Prop}{K':List eH}{s':St}(CD:sin.all (fun p=>Nat.ble fn.ntmps p.1)=true)(hA:A)(aq:vt ns (run P T fn n K s tr)=some (K',s',A))
  (h:LX P fn K' s' sin rx sout):LX P fn K s sin rx sout:=by
 intro Γ hs hn hI LS
 unfold vt at aq
 split at aq
 ·rename_i K2 s2 ob h0
  injection aq with aq;injection aq with h1 h2;injection h2 with h2 h3
  subst h1;subst h2;subst h3
  have Wr:∀r,bS Γ.sin r→Γ.n≤r:=by subst hs;exact Mi (by rw[hn];exact CD)
  exact ua hm hT Wr hn n _ _ tr _ ob h0 (ub ns ob hA) (h Γ hs hn hI LS)
 ·cases aq
theorem L.go(hm:P.follows .mixedOrders=true)(hT:nM P T){n:Nat}{ns:List Nat}{tr:List TE}{A:Prop}{K':List eH}{s':St}(hA:A)(aq:vt ns (run P T fn n K s tr)=some (K',s',A))(h:L P fn K' s' r):L P fn K s r :=
 LX.go hm hT rfl hA aq h
theorem av.SO{f:FuncId}{args:List EV}(hf:P.funcs[f]? = some fn)(oG:H6 fn args.length sin=true)(h:LX P fn [.code (ay fn)] ⟨lT 0 args,sin⟩ sin rx sout):av P f args sin rx sout:=by
 unfold H6 at oG
 simp only[Bool.and_eq_true,Bool.not_eq_true'] at oG
 exact av.of hf (F5 oG.1.1.1.1) oG.1.1.1.2 (Nat.le_of_ble_eq_true oG.1.1.2) (Nat.le_of_ble_eq_true oG.2) h
theorem fH.SO{f:FuncId}{args:List PV}(hf:P.funcs[f]? = some fn)(oG:H6 fn (args.map EV.pv).length []=true)(h:L P fn [.code (ay fn)] ⟨lT 0 (args.map EV.pv),[]⟩ r):fH P f args r :=
 av.SO hf oG h
end
abbrev iI(n:Int):Hint := .pv (.int .i64 n)
abbrev iU(n:Nat):Hint := .pv (.int .u64 (n:Int))
abbrev iW(w:UInt32):Hint := .pv (.int .u32 (w.toNat:Int))
abbrev vI(n:Int):PV := .int .i64 n
abbrev vU(n:Nat):PV := .int .u64 (n:Int)
abbrev vW(w:UInt32):PV := .int .u32 (w.toNat:Int)
abbrev vB(b:Bool):PV := .bool b
abbrev eI(n:Int):EV := .pv (.int .i64 n)
abbrev eU(n:Nat):EV := .pv (.int .u64 (n:Int))
abbrev eW(w:UInt32):EV := .pv (.int .u32 (w.toNat:Int))
abbrev eB(b:Bool):EV := .pv (.bool b)
def dr(a b:Nat)(hs:List Hint):TE := .VY [] (List.range a) (List.range' a b) hs
end Go.Proofs.YtllmkadmohkbfaaGreatDoor.Sym
