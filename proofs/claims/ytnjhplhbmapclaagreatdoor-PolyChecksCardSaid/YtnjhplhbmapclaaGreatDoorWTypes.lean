/- Lemmas for the statements of this seat. -/
import Derived.Test.YtnjhplhbmapclaaGreatDoorWSymU
namespace Go.Proofs.YtnjhplhbmapclaaGreatDoor.Sym
open Go
abbrev Words:=List UInt32
def ab(n:UInt32):List PV:=[.int .u32 (n.toNat:Int)]
abbrev aa(l:Words):PV := .list (l.map ab)
def bY(n:Int):List PV:=[.int .i64 n]
def db(s:ByteArray):List PV:=[.str s]
abbrev qm{α:Type}(enc:α→List PV)(l:List α):PV := .list (l.map enc)
def df{α:Type}(enc:α→List PV)(l:List α):List PV:=[qm enc l]
def cX:Option Int→PV
 |none => .bD
 |some n => .iface 55 (.int .i64 n)
def az(fn:Func):Code:=match fn.body with
 |some c=>c
 |none => .skip
theorem xW{fn:Func}(h:fn.body.isSome=true):fn.body=some (az fn):=by
 unfold az
 cases hb:fn.body with
 |none=>rw[hb] at h;cases h
 |some c=>rfl
def focus:List Nat→List dB→List dB
 |[],K=>K
 |0::p,.code (.seq a b)::K=>focus p (.code a :: .code b::K)
 |0::p,.code (.block id c)::K=>focus p (.code c :: .tt id::K)
 |0::p,.code (.loop c)::K=>focus p (.mF c::K)
 |0::p,.mF c::K=>focus p (.code c :: .mF c::K)
 |0::p,.code (.cond _ a _)::K=>focus p (.code a::K)
 |1::p,.code (.cond _ _ b)::K=>focus p (.code b::K)
 |2::p,_::K=>focus p K
 |_,K=>K
def eV:List dB→Array Oper
 |.code (.region _ ops _)::_=>ops
 |_ => #[]
def LX(P:Program)(fn:Func)(K:List dB)(s:St)(sin:aD)(r:EV)(sout:aD):Prop :=
 ∀Γ:Ctx,Γ.sin=sin→Γ.n=fn.ntmps→(∀b,Γ.I0 b→b<Γ.w0.heap.size)→ph Γ.β0 Γ.I0 Γ.w0 Γ.sin→Sat P fn Γ (mN sin sout r Γ.β0 Γ.I0 Γ.w0) K s
def L(P:Program)(fn:Func)(K:List dB)(s:St)(r:PV):Prop:=LX P fn K s [] (.pv r) []
def De:List Nat→List Prop→Prop
 |[],ob=>bV ob
 |n::ns,ob=>bV (ob.take n)∧De ns (ob.drop n)
theorem bV.join:∀{l m:List Prop},bV l→bV m→bV (l++m)
 |[],_,_,h=>h
 |[p],[],h,_=>h
 |[_],_::_,h,h2=>⟨h,h2⟩
 |_::q::r,m,h,h2=>by
  have h3:=bV.join (l:=q::r) h.2 h2
  exact⟨h.1,h3⟩
theorem nI:∀(ns:List Nat) (ob:List Prop),De ns ob→bV ob
 |[],_,h=>h
 |n::ns,ob,h=>by
  have:=bV.join h.1 (nI ns _ h.2)
  rwa[List.take_append_drop] at this
def wv(ns:List Nat):Option (Out×List Prop)→Option (PV×Prop)
 |some (.done (.pv p) _,ob)=>some (p,De ns ob)
 |_=>none
def vp(ns:List Nat)(sin:aD):Option (Out×List Prop)→Option (EV×aD×Prop)
 |some (.done e s,ob)=>bif sin.all (fun p=>o5 p.1||(aD.get s.aw p.1).isSome) then some (e,s.aw,De ns ob) else none
 |_=>none
def oJ(ns:List Nat):Option (Out×List Prop)→Option (List dB×St×Prop)
 |some (.loop K s,ob)=>some (K,s,De ns ob)
 |_=>none
def zA (fn : Func) (k : Nat) (sin : aD) : Bool := fn.body.isSome && !(fn.name == "runtime.NumGoroutine") && Nat.ble k fn.ntmps && sin.all (fun p => Nat.ble fn.ntmps p.1) && Nat.ble fn.ntmps 999999
theorem cj{a b:Prop}(h:a)(k:b):a∧b:=⟨h,k⟩
section
variable {P:Program} {T:gi} {fn:Func} {K:List dB} {s:St} {r:PV} {sin sout:aD} {rx:EV}
theorem Df{Γ:Ctx}(h:sin.all (fun p=>Nat.ble Γ.n p.1)=true):∀r,aT sin r→Γ.n≤r:=by
 intro r hr
 obtain⟨sc,jP⟩:=Option.isSome_iff_exists.1 hr
 rw[List.all_eq_true] at h
 rcases aD.get_mem jP with hm|⟨hm,_⟩
 ·exact Nat.le_of_ble_eq_true (h _ hm)
 ·have:=Γ.small;omega
theorem L.done(hm:P.follows .mixedOrders=true)(hT:jh P T){n:Nat}{ns:List Nat}{tr:List TE}{A:Prop}(hA:A)(ai:wv ns (run P T fn n K s tr)=some (r,A)):L P fn K s r:=by
 intro Γ hs hn _ _
 unfold wv at ai
 split at ai
 ·rename_i p s' ob h
  injection ai with ai;injection ai with h1 h2
  subst h1;subst h2
  exact nH hm hT (fun r h=>by rw[hs] at h;exact absurd h jH) hn n _ _ tr _ ob h (nI ns ob hA) (rB.pure hs rfl)
 ·cases ai
theorem LX.done(hm:P.follows .mixedOrders=true)(hT:jh P T){n:Nat}{ns:List Nat}{tr:List TE}{A:Prop}(uM:sin.all (fun p=>Nat.ble fn.ntmps p.1)=true)(hA:A)(ai:vp ns sin (run P T fn n K s tr)=some (rx,sout,A)):LX P fn K s sin rx sout:=by
 intro Γ hs hn hI CW
 unfold vp at ai
 split at ai
 ·rename_i e s' ob h
  cases hb:sin.all (fun p=>o5 p.1||(aD.get s'.aw p.1).isSome) with
  |false=>simp[hb] at ai
  |true =>
   simp only[hb,cond_true] at ai
   injection ai with ai;injection ai with h1 h2;injection h2 with h2 h3
   subst h1;subst h2;subst h3;subst hs
   refine nH hm hT (Df (by rw[hn];exact uM)) hn n _ _ tr _ ob h (nI ns ob hA) (rB.sites hI CW (fun x hx hg => ?_))
   obtain⟨sc,jP⟩:=Option.isSome_iff_exists.1 hx
   rw[List.all_eq_true] at hb
   have hm:(x,sc)∈Γ.sin:=by
    rcases aD.get_mem jP with hm|⟨hm,_⟩
    ·exact hm
    ·exact absurd (show gv x by unfold gv;omega) hg
   rcases Bool.or_eq_true _ _ ▸ hb _ hm with h|h
   ·exact absurd (Nat.le_of_ble_eq_true h) hg
   ·exact h
 ·cases ai
theorem LX.Jh(hm:P.follows .mixedOrders=true)(hT:jh P T){n:Nat}{ns:List Nat}{tr:List TE}{A:Prop}(uM:sin.all (fun p=>Nat.ble fn.ntmps p.1)=true)(sZ:sin.all (fun p=>o5 p.1||(aD.get sout p.1).isSome)=true)(hA:A)
  (ai:vp ns [] (run P T fn n K s tr)=some (rx,sout,A)):LX P fn K s sin rx sout:=by
 refine LX.done hm hT uM hA (n:=n) (ns:=ns) (tr:=tr) ?_
 unfold vp at ai ⊢
 split at ai
 ·rename_i e s' ob h
  simp only[List.all_nil,cond_true] at ai
  injection ai with ai;injection ai with h1 h2;injection h2 with h2 h3
  subst h1;subst h2;subst h3
  simp only[sZ,cond_true]
 ·cases ai
theorem LX.go(hm:P.follows .mixedOrders=true)(hT:jh P T){n:Nat}{ns:List Nat}{tr:List TE}{A:Prop}{K':List dB}{s':St}(uM:sin.all (fun p=>Nat.ble fn.ntmps p.1)=true)(hA:A)(ai:oJ ns (run P T fn n K s tr)=some (K',s',A))
  (h:LX P fn K' s' sin rx sout):LX P fn K s sin rx sout:=by
 intro Γ hs hn hI CW
 unfold oJ at ai
 split at ai
 ·rename_i K2 s2 ob h0
  injection ai with ai;injection ai with h1 h2;injection h2 with h2 h3
  subst h1;subst h2;subst h3
  have Lm:∀r,aT Γ.sin r→Γ.n≤r:=by subst hs;exact Df (by rw[hn];exact uM)
  exact nH hm hT Lm hn n _ _ tr _ ob h0 (nI ns ob hA) (h Γ hs hn hI CW)
 ·cases ai
theorem L.go(hm:P.follows .mixedOrders=true)(hT:jh P T){n:Nat}{ns:List Nat}{tr:List TE}{A:Prop}{K':List dB}{s':St}(hA:A)(ai:oJ ns (run P T fn n K s tr)=some (K',s',A))(h:L P fn K' s' r):L P fn K s r :=
 LX.go hm hT rfl hA ai h
theorem aq.Iw{f:FuncId}{args:List EV}(hf:P.funcs[f]? = some fn)(jX:zA fn args.length sin=true)(h:LX P fn [.code (az fn)] ⟨gY 0 args,sin⟩ sin rx sout):aq P f args sin rx sout:=by
 unfold zA at jX
 simp only[Bool.and_eq_true,Bool.not_eq_true'] at jX
 exact aq.of hf (xW jX.1.1.1.1) jX.1.1.1.2 (Nat.le_of_ble_eq_true jX.1.1.2) (Nat.le_of_ble_eq_true jX.2) h
theorem cb.Iw{f:FuncId}{args:List PV}(hf:P.funcs[f]? = some fn)(jX:zA fn (args.map EV.pv).length []=true)(h:L P fn [.code (az fn)] ⟨gY 0 (args.map EV.pv),[]⟩ r):cb P f args r :=
 aq.Iw hf jX h
end
abbrev iI(n:Int):Hint := .pv (.int .i64 n)
abbrev iU(n:Nat):Hint := .pv (.int .u64 (n:Int))
abbrev iW(w:UInt32):Hint := .pv (.int .u32 (w.toNat:Int))
abbrev vI(n:Int):PV := .int .i64 n
abbrev vU(n:Nat):PV := .int .u64 (n:Int)
abbrev vW(w:UInt32):PV := .int .u32 (w.toNat:Int)
abbrev vB(b:Bool):PV := .bool b
abbrev eI(n:Int):EV := .pv (.int .i64 n)
abbrev eU(n:Nat):EV := .pv (.int .u64 (n:Int))
abbrev eW(w:UInt32):EV := .pv (.int .u32 (w.toNat:Int))
abbrev eB(b:Bool):EV := .pv (.bool b)
def dr(a b:Nat)(hs:List Hint):TE := .KV [] (List.range a) (List.range' a b) hs
end Go.Proofs.YtnjhplhbmapclaaGreatDoor.Sym
