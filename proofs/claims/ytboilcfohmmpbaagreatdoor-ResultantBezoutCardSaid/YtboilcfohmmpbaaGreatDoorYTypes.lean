/- Bezout and Accepts of the program answer as the reference does. -/
import Derived.Test.YtboilcfohmmpbaaGreatDoorYSymU
namespace Go.Proofs.YtboilcfohmmpbaaGreatDoor.Sym
open Go
abbrev Words:=List UInt32
def wordPV(n:UInt32):List PV:=[.int .u32 (n.toNat:Int)]
abbrev wordsPV(l:Words):PV := .list (l.map wordPV)
def intCell(n:Int):List PV:=[.int .i64 n]
def strCell(s:ByteArray):List PV:=[.str s]
abbrev lpv{α:Type}(enc:α→List PV)(l:List α):PV := .list (l.map enc)
def lcell{α:Type}(enc:α→List PV)(l:List α):List PV:=[lpv enc l]
def errPV:Option Int→PV
 |none => .nilI
 |some n => .iface 61 (.int .i64 n)
def bodyOf(fn:Func):Code:=match fn.body with
 |some c=>c
 |none => .skip
theorem bodyOf_some{fn:Func}(h:fn.body.isSome=true):fn.body=some (bodyOf fn):=by
 unfold bodyOf
 cases hb:fn.body with
 |none=>rw[hb] at h;cases h
 |some c=>rfl
def focus:List Nat→List Itm→List Itm
 |[],K=>K
 |0::p,.code (.seq a b)::K=>focus p (.code a :: .code b::K)
 |0::p,.code (.block id c)::K=>focus p (.code c :: .endB id::K)
 |0::p,.code (.loop c)::K=>focus p (.endL c::K)
 |0::p,.endL c::K=>focus p (.code c :: .endL c::K)
 |0::p,.code (.cond _ a _)::K=>focus p (.code a::K)
 |1::p,.code (.cond _ _ b)::K=>focus p (.code b::K)
 |2::p,_::K=>focus p K
 |_,K=>K
def opsAt:List Itm→Array Oper
 |.code (.region _ ops _)::_=>ops
 |_ => #[]
def LX(P:Program)(fn:Func)(K:List Itm)(s:St)(sin:Sto)(r:EV)(sout:Sto):Prop :=
 ∀Γ:Ctx,Γ.sin=sin→Γ.n=fn.ntmps→(∀b,Γ.I0 b→b<Γ.w0.heap.size)→StoOk Γ.β0 Γ.I0 Γ.w0 Γ.sin→Sat P fn Γ (CallPost sin sout r Γ.β0 Γ.I0 Γ.w0) K s
def L(P:Program)(fn:Func)(K:List Itm)(s:St)(r:PV):Prop:=LX P fn K s [] (.pv r) []
def gAll:List Nat→List Prop→Prop
 |[],ob=>Alls ob
 |n::ns,ob=>Alls (ob.take n)∧gAll ns (ob.drop n)
theorem Alls.join:∀{l m:List Prop},Alls l→Alls m→Alls (l++m)
 |[],_,_,h=>h
 |[p],[],h,_=>h
 |[_],_::_,h,h2=>⟨h,h2⟩
 |_::q::r,m,h,h2=>by
  have h3:=Alls.join (l:=q::r) h.2 h2
  exact⟨h.1,h3⟩
theorem gAll_alls:∀(ns:List Nat) (ob:List Prop),gAll ns ob→Alls ob
 |[],_,h=>h
 |n::ns,ob,h=>by
  have:=Alls.join h.1 (gAll_alls ns _ h.2)
  rwa[List.take_append_drop] at this
def doneOf(ns:List Nat):Option (Out×List Prop)→Option (PV×Prop)
 |some (.done (.pv p) _,ob)=>some (p,gAll ns ob)
 |_=>none
def doneX(ns:List Nat)(sin:Sto):Option (Out×List Prop)→Option (EV×Sto×Prop)
 |some (.done e s,ob)=>bif sin.all (fun p=>gvB p.1||(Sto.get s.sto p.1).isSome) then some (e,s.sto,gAll ns ob) else none
 |_=>none
def loopOf(ns:List Nat):Option (Out×List Prop)→Option (List Itm×St×Prop)
 |some (.loop K s,ob)=>some (K,s,gAll ns ob)
 |_=>none
def fnOk (fn : Func) (k : Nat) (sin : Sto) : Bool := fn.body.isSome && !(fn.name == "runtime.NumGoroutine") && Nat.ble k fn.ntmps && sin.all (fun p => Nat.ble fn.ntmps p.1) && Nat.ble fn.ntmps 999999
theorem cj{a b:Prop}(h:a)(k:b):a∧b:=⟨h,k⟩
section
variable {P:Program} {T:Tab} {fn:Func} {K:List Itm} {s:St} {r:PV} {sin sout:Sto} {rx:EV}
theorem sin_ge{Γ:Ctx}(h:sin.all (fun p=>Nat.ble Γ.n p.1)=true):∀r,dom sin r→Γ.n≤r:=by
 intro r hr
 obtain⟨sc,hsc⟩:=Option.isSome_iff_exists.1 hr
 rw[List.all_eq_true] at h
 rcases Sto.get_mem hsc with hm|⟨hm,_⟩
 ·exact Nat.le_of_ble_eq_true (h _ hm)
 ·have:=Γ.small;omega
theorem L.done(hm:P.follows .mixedOrders=true)(hT:TOk P T){n:Nat}{ns:List Nat}{tr:List TE}{A:Prop}(hA:A)(hrun:doneOf ns (run P T fn n K s tr)=some (r,A)):L P fn K s r:=by
 intro Γ hs hn _ _
 unfold doneOf at hrun
 split at hrun
 ·rename_i p s' ob h
  injection hrun with hrun;injection hrun with h1 h2
  subst h1;subst h2
  exact run_sound hm hT (fun r h=>by rw[hs] at h;exact absurd h dom_nil) hn n _ _ tr _ ob h (gAll_alls ns ob hA) (OutOk.pure hs rfl)
 ·cases hrun
theorem LX.doneG(hm:P.follows .mixedOrders=true)(hT:TOk P T){n:Nat}{ns:List Nat}{tr:List TE}{A:Prop}(hge:sin.all (fun p=>Nat.ble fn.ntmps p.1)=true)(hgv:sin.all (fun p=>gvB p.1)=true)(hA:A)(hrun:doneOf ns (run P T fn n K s tr)=some (r,A)):LX P fn K s sin (.pv r) []:=by
 intro Γ hs hn _ _
 unfold doneOf at hrun
 split at hrun
 ·rename_i p s' ob h
  injection hrun with hrun;injection hrun with h1 h2
  subst h1;subst h2;subst hs
  refine run_sound hm hT (sin_ge (by rw[hn];exact hge)) hn n _ _ tr _ ob h (gAll_alls ns ob hA) (OutOk.pureG (fun x hx => ?_) rfl)
  obtain⟨sc,hsc⟩:=Option.isSome_iff_exists.1 hx
  rw[List.all_eq_true] at hgv
  rcases Sto.get_mem hsc with hm|⟨hm,_⟩
  ·exact Nat.le_of_ble_eq_true (hgv _ hm)
  ·unfold gv;omega
 ·cases hrun
theorem LX.done(hm:P.follows .mixedOrders=true)(hT:TOk P T){n:Nat}{ns:List Nat}{tr:List TE}{A:Prop}(hge:sin.all (fun p=>Nat.ble fn.ntmps p.1)=true)(hA:A)(hrun:doneX ns sin (run P T fn n K s tr)=some (rx,sout,A)):LX P fn K s sin rx sout:=by
 intro Γ hs hn hI hso
 unfold doneX at hrun
 split at hrun
 ·rename_i e s' ob h
  cases hb:sin.all (fun p=>gvB p.1||(Sto.get s'.sto p.1).isSome) with
  |false=>simp[hb] at hrun
  |true =>
   simp only[hb,cond_true] at hrun
   injection hrun with hrun;injection hrun with h1 h2;injection h2 with h2 h3
   subst h1;subst h2;subst h3;subst hs
   refine run_sound hm hT (sin_ge (by rw[hn];exact hge)) hn n _ _ tr _ ob h (gAll_alls ns ob hA) (OutOk.sites hI hso (fun x hx hg => ?_))
   obtain⟨sc,hsc⟩:=Option.isSome_iff_exists.1 hx
   rw[List.all_eq_true] at hb
   have hm:(x,sc)∈Γ.sin:=by
    rcases Sto.get_mem hsc with hm|⟨hm,_⟩
    ·exact hm
    ·exact absurd (show gv x by unfold gv;omega) hg
   rcases Bool.or_eq_true _ _ ▸ hb _ hm with h|h
   ·exact absurd (Nat.le_of_ble_eq_true h) hg
   ·exact h
 ·cases hrun
theorem LX.done2(hm:P.follows .mixedOrders=true)(hT:TOk P T){n:Nat}{ns:List Nat}{tr:List TE}{A:Prop}(hge:sin.all (fun p=>Nat.ble fn.ntmps p.1)=true)(hin:sin.all (fun p=>gvB p.1||(Sto.get sout p.1).isSome)=true)(hA:A)
  (hrun:doneX ns [] (run P T fn n K s tr)=some (rx,sout,A)):LX P fn K s sin rx sout:=by
 refine LX.done hm hT hge hA (n:=n) (ns:=ns) (tr:=tr) ?_
 unfold doneX at hrun ⊢
 split at hrun
 ·rename_i e s' ob h
  simp only[List.all_nil,cond_true] at hrun
  injection hrun with hrun;injection hrun with h1 h2;injection h2 with h2 h3
  subst h1;subst h2;subst h3
  simp only[hin,cond_true]
 ·cases hrun
theorem LX.go(hm:P.follows .mixedOrders=true)(hT:TOk P T){n:Nat}{ns:List Nat}{tr:List TE}{A:Prop}{K':List Itm}{s':St}(hge:sin.all (fun p=>Nat.ble fn.ntmps p.1)=true)(hA:A)(hrun:loopOf ns (run P T fn n K s tr)=some (K',s',A))
  (h:LX P fn K' s' sin rx sout):LX P fn K s sin rx sout:=by
 intro Γ hs hn hI hso
 unfold loopOf at hrun
 split at hrun
 ·rename_i K2 s2 ob h0
  injection hrun with hrun;injection hrun with h1 h2;injection h2 with h2 h3
  subst h1;subst h2;subst h3
  have hge':∀r,dom Γ.sin r→Γ.n≤r:=by subst hs;exact sin_ge (by rw[hn];exact hge)
  exact run_sound hm hT hge' hn n _ _ tr _ ob h0 (gAll_alls ns ob hA) (h Γ hs hn hI hso)
 ·cases hrun
theorem L.go(hm:P.follows .mixedOrders=true)(hT:TOk P T){n:Nat}{ns:List Nat}{tr:List TE}{A:Prop}{K':List Itm}{s':St}(hA:A)(hrun:loopOf ns (run P T fn n K s tr)=some (K',s',A))(h:L P fn K' s' r):L P fn K s r :=
 LX.go hm hT rfl hA hrun h
theorem ContractX.ofL{f:FuncId}{args:List EV}(hf:P.funcs[f]? = some fn)(hok:fnOk fn args.length sin=true)(h:LX P fn [.code (bodyOf fn)] ⟨initEnv 0 args,sin⟩ sin rx sout):ContractX P f args sin rx sout:=by
 unfold fnOk at hok
 simp only[Bool.and_eq_true,Bool.not_eq_true'] at hok
 exact ContractX.of hf (bodyOf_some hok.1.1.1.1) hok.1.1.1.2 (Nat.le_of_ble_eq_true hok.1.1.2) (Nat.le_of_ble_eq_true hok.2) h
theorem Contract.ofL{f:FuncId}{args:List PV}(hf:P.funcs[f]? = some fn)(hok:fnOk fn (args.map EV.pv).length []=true)(h:L P fn [.code (bodyOf fn)] ⟨initEnv 0 (args.map EV.pv),[]⟩ r):Contract P f args r :=
 ContractX.ofL hf hok h
end
abbrev iI(n:Int):Hint := .pv (.int .i64 n)
abbrev iU(n:Nat):Hint := .pv (.int .u64 (n:Int))
abbrev iW(w:UInt32):Hint := .pv (.int .u32 (w.toNat:Int))
abbrev vI(n:Int):PV := .int .i64 n
abbrev vU(n:Nat):PV := .int .u64 (n:Int)
abbrev vW(w:UInt32):PV := .int .u32 (w.toNat:Int)
abbrev vB(b:Bool):PV := .bool b
abbrev eI(n:Int):EV := .pv (.int .i64 n)
abbrev eU(n:Nat):EV := .pv (.int .u64 (n:Int))
abbrev eW(w:UInt32):EV := .pv (.int .u32 (w.toNat:Int))
abbrev eB(b:Bool):EV := .pv (.bool b)
def dr(a b:Nat)(hs:List Hint):TE := .drw [] (List.range a) (List.range' a b) hs
end Go.Proofs.YtboilcfohmmpbaaGreatDoor.Sym
