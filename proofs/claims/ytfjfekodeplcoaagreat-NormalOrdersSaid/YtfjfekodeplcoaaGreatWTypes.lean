/- Lemmas for the statements of this seat. -/
import Derived.Test.YtfjfekodeplcoaaGreatWSymU
namespace Go.Proofs.YtfjfekodeplcoaaGreat.Sym
open Go
abbrev Words:=List UInt32
def ai(n:UInt32):List PV:=[.int .u32 (n.toNat:Int)]
abbrev ae(l:Words):PV := .list (l.map ai)
def aq(n:Int):List PV:=[.int .i64 n]
def aC(s:ByteArray):List PV:=[.str s]
abbrev aZ{α:Type}(enc:α→List PV)(l:List α):PV := .list (l.map enc)
def k9{α:Type}(enc:α→List PV)(l:List α):List PV:=[aZ enc l]
def di:Option Int→PV
 |none => .bK
 |some n => .iface 74 (.int .i64 n)
def aA(fn:Func):Code:=match fn.body with
 |some c=>c
 |none => .skip
theorem CG{fn:Func}(h:fn.body.isSome=true):fn.body=some (aA fn):=by
 unfold aA
 cases hb:fn.body with
 |none=>rw[hb] at h;cases h
 |some c=>rfl
def focus:List Nat→List dI→List dI
 |[],K=>K
 |0::p,.code (.seq a b)::K=>focus p (.code a :: .code b::K)
 |0::p,.code (.block id c)::K=>focus p (.code c :: .xZ id::K)
 |0::p,.code (.loop c)::K=>focus p (.q7 c::K)
 |0::p,.q7 c::K=>focus p (.code c :: .q7 c::K)
 |0::p,.code (.cond _ a _)::K=>focus p (.code a::K)
 |1::p,.code (.cond _ _ b)::K=>focus p (.code b::K)
 |2::p,_::K=>focus p K
 |_,K=>K
def bP:List dI→Array Oper
 |.code (.region _ ops _)::_=>ops
 |_ => #[]
def LX(P:Program)(fn:Func)(K:List dI)(s:St)(sin:aN)(r:EV)(sout:aN):Prop :=
 ∀Γ:Ctx,Γ.sin=sin→Γ.n=fn.ntmps→(∀b,Γ.I0 b→b<Γ.w0.heap.size)→tZ Γ.β0 Γ.I0 Γ.w0 Γ.sin→Sat P fn Γ (pJ sin sout r Γ.β0 Γ.I0 Γ.w0) K s
def L(P:Program)(fn:Func)(K:List dI)(s:St)(r:PV):Prop:=LX P fn K s [] (.pv r) []
def HN:List Nat→List Prop→Prop
 |[],ob=>dw ob
 |n::ns,ob=>dw (ob.take n)∧HN ns (ob.drop n)
theorem dw.join:∀{l m:List Prop},dw l→dw m→dw (l++m)
 |[],_,_,h=>h
 |[p],[],h,_=>h
 |[_],_::_,h,h2=>⟨h,h2⟩
 |_::q::r,m,h,h2=>by
  have h3:=dw.join (l:=q::r) h.2 h2
  exact⟨h.1,h3⟩
theorem r9:∀(ns:List Nat) (ob:List Prop),HN ns ob→dw ob
 |[],_,h=>h
 |n::ns,ob,h=>by
  have:=dw.join h.1 (r9 ns _ h.2)
  rwa[List.take_append_drop] at this
def A4(ns:List Nat):Option (Out×List Prop)→Option (PV×Prop)
 |some (.done (.pv p) _,ob)=>some (p,HN ns ob)
 |_=>none
def Aj(ns:List Nat)(sin:aN):Option (Out×List Prop)→Option (EV×aN×Prop)
 |some (.done e s,ob)=>bif sin.all (fun p=>pB p.1||(aN.get s.sto p.1).isSome) then some (e,s.sto,HN ns ob) else none
 |_=>none
def tz(ns:List Nat):Option (Out×List Prop)→Option (List dI×St×Prop)
 |some (.loop K s,ob)=>some (K,s,HN ns ob)
 |_=>none
def Ef (fn : Func) (k : Nat) (sin : aN) : Bool := fn.body.isSome && !(fn.name == "runtime.NumGoroutine") && Nat.ble k fn.ntmps && sin.all (fun p => Nat.ble fn.ntmps p.1) && Nat.ble fn.ntmps 999999
theorem cj{a b:Prop}(h:a)(k:b):a∧b:=⟨h,k⟩
section
variable {P:Program} {T:jZ} {fn:Func} {K:List dI} {s:St} {r:PV} {sin sout:aN} {rx:EV}
theorem HO{Γ:Ctx}(h:sin.all (fun p=>Nat.ble Γ.n p.1)=true):∀r,bk sin r→Γ.n≤r:=by
 intro r hr
 obtain⟨sc,lO⟩:=Option.isSome_iff_exists.1 hr
 rw[List.all_eq_true] at h
 rcases aN.get_mem lO with hm|⟨hm,_⟩
 ·exact Nat.le_of_ble_eq_true (h _ hm)
 ·have:=Γ.small;omega
theorem L.done(hm:P.follows .mixedOrders=true)(hT:mN P T){n:Nat}{ns:List Nat}{tr:List TE}{A:Prop}(hA:A)(ax:A4 ns (run P T fn n K s tr)=some (r,A)):L P fn K s r:=by
 intro Γ hs hn _ _
 unfold A4 at ax
 split at ax
 ·rename_i p s' ob h
  injection ax with ax;injection ax with h1 h2
  subst h1;subst h2
  exact r8 hm hT (fun r h=>by rw[hs] at h;exact absurd h fY) hn n _ _ tr _ ob h (r9 ns ob hA) (wb.pure hs rfl)
 ·cases ax
theorem LX.done(hm:P.follows .mixedOrders=true)(hT:mN P T){n:Nat}{ns:List Nat}{tr:List TE}{A:Prop}(vb:sin.all (fun p=>Nat.ble fn.ntmps p.1)=true)(hA:A)(ax:Aj ns sin (run P T fn n K s tr)=some (rx,sout,A)):LX P fn K s sin rx sout:=by
 intro Γ hs hn hI Co
 unfold Aj at ax
 split at ax
 ·rename_i e s' ob h
  cases hb:sin.all (fun p=>pB p.1||(aN.get s'.sto p.1).isSome) with
  |false=>simp[hb] at ax
  |true =>
   simp only[hb,cond_true] at ax
   injection ax with ax;injection ax with h1 h2;injection h2 with h2 h3
   subst h1;subst h2;subst h3;subst hs
   refine r8 hm hT (HO (by rw[hn];exact vb)) hn n _ _ tr _ ob h (r9 ns ob hA) (wb.sites hI Co (fun x hx hg => ?_))
   obtain⟨sc,lO⟩:=Option.isSome_iff_exists.1 hx
   rw[List.all_eq_true] at hb
   have hm:(x,sc)∈Γ.sin:=by
    rcases aN.get_mem lO with hm|⟨hm,_⟩
    ·exact hm
    ·exact absurd (show gv x by unfold gv;omega) hg
   rcases Bool.or_eq_true _ _ ▸ hb _ hm with h|h
   ·exact absurd (Nat.le_of_ble_eq_true h) hg
   ·exact h
 ·cases ax
theorem LX.Ol(hm:P.follows .mixedOrders=true)(hT:mN P T){n:Nat}{ns:List Nat}{tr:List TE}{A:Prop}(vb:sin.all (fun p=>Nat.ble fn.ntmps p.1)=true)(tf:sin.all (fun p=>pB p.1||(aN.get sout p.1).isSome)=true)(hA:A)
  (ax:Aj ns [] (run P T fn n K s tr)=some (rx,sout,A)):LX P fn K s sin rx sout:=by
 refine LX.done hm hT vb hA (n:=n) (ns:=ns) (tr:=tr) ?_
 unfold Aj at ax ⊢
 split at ax
 ·rename_i e s' ob h
  simp only[List.all_nil,cond_true] at ax
  injection ax with ax;injection ax with h1 h2;injection h2 with h2 h3
  subst h1;subst h2;subst h3
  simp only[tf,cond_true]
 ·cases ax
theorem LX.go(hm:P.follows .mixedOrders=true)(hT:mN P T){n:Nat}{ns:List Nat}{tr:List TE}{A:Prop}{K':List dI}{s':St}(vb:sin.all (fun p=>Nat.ble fn.ntmps p.1)=true)(hA:A)(ax:tz ns (run P T fn n K s tr)=some (K',s',A))
  (h:LX P fn K' s' sin rx sout):LX P fn K s sin rx sout:=by
 intro Γ hs hn hI Co
 unfold tz at ax
 split at ax
 ·rename_i K2 s2 ob h0
  injection ax with ax;injection ax with h1 h2;injection h2 with h2 h3
  subst h1;subst h2;subst h3
  have QM:∀r,bk Γ.sin r→Γ.n≤r:=by subst hs;exact HO (by rw[hn];exact vb)
  exact r8 hm hT QM hn n _ _ tr _ ob h0 (r9 ns ob hA) (h Γ hs hn hI Co)
 ·cases ax
theorem L.go(hm:P.follows .mixedOrders=true)(hT:mN P T){n:Nat}{ns:List Nat}{tr:List TE}{A:Prop}{K':List dI}{s':St}(hA:A)(ax:tz ns (run P T fn n K s tr)=some (K',s',A))(h:L P fn K' s' r):L P fn K s r :=
 LX.go hm hT rfl hA ax h
theorem aw.Nz{f:FuncId}{args:List EV}(hf:P.funcs[f]? = some fn)(mL:Ef fn args.length sin=true)(h:LX P fn [.code (aA fn)] ⟨k8 0 args,sin⟩ sin rx sout):aw P f args sin rx sout:=by
 unfold Ef at mL
 simp only[Bool.and_eq_true,Bool.not_eq_true'] at mL
 exact aw.of hf (CG mL.1.1.1.1) mL.1.1.1.2 (Nat.le_of_ble_eq_true mL.1.1.2) (Nat.le_of_ble_eq_true mL.2) h
theorem fK.Nz{f:FuncId}{args:List PV}(hf:P.funcs[f]? = some fn)(mL:Ef fn (args.map EV.pv).length []=true)(h:L P fn [.code (aA fn)] ⟨k8 0 (args.map EV.pv),[]⟩ r):fK P f args r :=
 aw.Nz hf mL h
end
abbrev iI(n:Int):Hint := .pv (.int .i64 n)
abbrev iU(n:Nat):Hint := .pv (.int .u64 (n:Int))
abbrev iW(w:UInt32):Hint := .pv (.int .u32 (w.toNat:Int))
abbrev vI(n:Int):PV := .int .i64 n
abbrev vU(n:Nat):PV := .int .u64 (n:Int)
abbrev vW(w:UInt32):PV := .int .u32 (w.toNat:Int)
abbrev vB(b:Bool):PV := .bool b
abbrev eI(n:Int):EV := .pv (.int .i64 n)
abbrev eU(n:Nat):EV := .pv (.int .u64 (n:Int))
abbrev eW(w:UInt32):EV := .pv (.int .u32 (w.toNat:Int))
abbrev eB(b:Bool):EV := .pv (.bool b)
def dr(a b:Nat)(hs:List Hint):TE := .Qm [] (List.range a) (List.range' a b) hs
end Go.Proofs.YtfjfekodeplcoaaGreat.Sym
