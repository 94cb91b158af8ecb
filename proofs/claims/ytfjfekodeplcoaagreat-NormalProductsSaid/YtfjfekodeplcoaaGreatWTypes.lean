/- Lemmas for the statements of this seat. -/
import Derived.Test.YtfjfekodeplcoaaGreatWSymU
namespace Go.Proofs.YtfjfekodeplcoaaGreat.Sym
open Go
abbrev Words:=List UInt32
def af(n:UInt32):List PV:=[.int .u32 (n.toNat:Int)]
abbrev aa(l:Words):PV := .list (l.map af)
def aB(n:Int):List PV:=[.int .i64 n]
def aQ(s:ByteArray):List PV:=[.str s]
abbrev bG{α:Type}(enc:α→List PV)(l:List α):PV := .list (l.map enc)
def k8{α:Type}(enc:α→List PV)(l:List α):List PV:=[bG enc l]
def bL:Option Int→PV
 |none => .cd
 |some n => .iface 74 (.int .i64 n)
def az(fn:Func):Code:=match fn.body with
 |some c=>c
 |none => .skip
theorem Dn{fn:Func}(h:fn.body.isSome=true):fn.body=some (az fn):=by
 unfold az
 cases hb:fn.body with
 |none=>rw[hb] at h;cases h
 |some c=>rfl
def focus:List Nat→List eh→List eh
 |[],K=>K
 |0::p,.code (.seq a b)::K=>focus p (.code a :: .code b::K)
 |0::p,.code (.block id c)::K=>focus p (.code c :: .zf id::K)
 |0::p,.code (.loop c)::K=>focus p (.ri c::K)
 |0::p,.ri c::K=>focus p (.code c :: .ri c::K)
 |0::p,.code (.cond _ a _)::K=>focus p (.code a::K)
 |1::p,.code (.cond _ _ b)::K=>focus p (.code b::K)
 |2::p,_::K=>focus p K
 |_,K=>K
def bA:List eh→Array Oper
 |.code (.region _ ops _)::_=>ops
 |_ => #[]
def LX(P:Program)(fn:Func)(K:List eh)(s:St)(sin:aG)(r:EV)(sout:aG):Prop :=
 ∀Γ:Ctx,Γ.sin=sin→Γ.n=fn.ntmps→(∀b,Γ.I0 b→b<Γ.w0.heap.size)→tg Γ.β0 Γ.I0 Γ.w0 Γ.sin→Sat P fn Γ (pH sin sout r Γ.β0 Γ.I0 Γ.w0) K s
def L(P:Program)(fn:Func)(K:List eh)(s:St)(r:PV):Prop:=LX P fn K s [] (.pv r) []
def IF:List Nat→List Prop→Prop
 |[],ob=>cW ob
 |n::ns,ob=>cW (ob.take n)∧IF ns (ob.drop n)
theorem cW.join:∀{l m:List Prop},cW l→cW m→cW (l++m)
 |[],_,_,h=>h
 |[p],[],h,_=>h
 |[_],_::_,h,h2=>⟨h,h2⟩
 |_::q::r,m,h,h2=>by
  have h3:=cW.join (l:=q::r) h.2 h2
  exact⟨h.1,h3⟩
theorem sB:∀(ns:List Nat) (ob:List Prop),IF ns ob→cW ob
 |[],_,h=>h
 |n::ns,ob,h=>by
  have:=cW.join h.1 (sB ns _ h.2)
  rwa[List.take_append_drop] at this
def BZ(ns:List Nat):Option (Out×List Prop)→Option (PV×Prop)
 |some (.done (.pv p) _,ob)=>some (p,IF ns ob)
 |_=>none
def Bb(ns:List Nat)(sin:aG):Option (Out×List Prop)→Option (EV×aG×Prop)
 |some (.done e s,ob)=>bif sin.all (fun p=>pN p.1||(aG.get s.sto p.1).isSome) then some (e,s.sto,IF ns ob) else none
 |_=>none
def tT(ns:List Nat):Option (Out×List Prop)→Option (List eh×St×Prop)
 |some (.loop K s,ob)=>some (K,s,IF ns ob)
 |_=>none
def E8 (fn : Func) (k : Nat) (sin : aG) : Bool := fn.body.isSome && !(fn.name == "runtime.NumGoroutine") && Nat.ble k fn.ntmps && sin.all (fun p => Nat.ble fn.ntmps p.1) && Nat.ble fn.ntmps 999999
theorem cj{a b:Prop}(h:a)(k:b):a∧b:=⟨h,k⟩
section
variable {P:Program} {T:ja} {fn:Func} {K:List eh} {s:St} {r:PV} {sin sout:aG} {rx:EV}
theorem IG{Γ:Ctx}(h:sin.all (fun p=>Nat.ble Γ.n p.1)=true):∀r,aS sin r→Γ.n≤r:=by
 intro r hr
 obtain⟨sc,gD⟩:=Option.isSome_iff_exists.1 hr
 rw[List.all_eq_true] at h
 rcases aG.get_mem gD with hm|⟨hm,_⟩
 ·exact Nat.le_of_ble_eq_true (h _ hm)
 ·have:=Γ.small;omega
theorem L.done(hm:P.follows .mixedOrders=true)(hT:lH P T){n:Nat}{ns:List Nat}{tr:List TE}{A:Prop}(hA:A)(aw:BZ ns (run P T fn n K s tr)=some (r,A)):L P fn K s r:=by
 intro Γ hs hn _ _
 unfold BZ at aw
 split at aw
 ·rename_i p s' ob h
  injection aw with aw;injection aw with h1 h2
  subst h1;subst h2
  exact sA hm hT (fun r h=>by rw[hs] at h;exact absurd h ez) hn n _ _ tr _ ob h (sB ns ob hA) (w6.pure hs rfl)
 ·cases aw
theorem LX.done(hm:P.follows .mixedOrders=true)(hT:lH P T){n:Nat}{ns:List Nat}{tr:List TE}{A:Prop}(rz:sin.all (fun p=>Nat.ble fn.ntmps p.1)=true)(hA:A)(aw:Bb ns sin (run P T fn n K s tr)=some (rx,sout,A)):LX P fn K s sin rx sout:=by
 intro Γ hs hn hI AD
 unfold Bb at aw
 split at aw
 ·rename_i e s' ob h
  cases hb:sin.all (fun p=>pN p.1||(aG.get s'.sto p.1).isSome) with
  |false=>simp[hb] at aw
  |true =>
   simp only[hb,cond_true] at aw
   injection aw with aw;injection aw with h1 h2;injection h2 with h2 h3
   subst h1;subst h2;subst h3;subst hs
   refine sA hm hT (IG (by rw[hn];exact rz)) hn n _ _ tr _ ob h (sB ns ob hA) (w6.sites hI AD (fun x hx hg => ?_))
   obtain⟨sc,gD⟩:=Option.isSome_iff_exists.1 hx
   rw[List.all_eq_true] at hb
   have hm:(x,sc)∈Γ.sin:=by
    rcases aG.get_mem gD with hm|⟨hm,_⟩
    ·exact hm
    ·exact absurd (show gv x by unfold gv;omega) hg
   rcases Bool.or_eq_true _ _ ▸ hb _ hm with h|h
   ·exact absurd (Nat.le_of_ble_eq_true h) hg
   ·exact h
 ·cases aw
theorem LX.PD(hm:P.follows .mixedOrders=true)(hT:lH P T){n:Nat}{ns:List Nat}{tr:List TE}{A:Prop}(rz:sin.all (fun p=>Nat.ble fn.ntmps p.1)=true)(tD:sin.all (fun p=>pN p.1||(aG.get sout p.1).isSome)=true)(hA:A)
  (aw:Bb ns [] (run P T fn n K s tr)=some (rx,sout,A)):LX P fn K s sin rx sout:=by
 refine LX.done hm hT rz hA (n:=n) (ns:=ns) (tr:=tr) ?_
 unfold Bb at aw ⊢
 split at aw
 ·rename_i e s' ob h
  simp only[List.all_nil,cond_true] at aw
  injection aw with aw;injection aw with h1 h2;injection h2 with h2 h3
  subst h1;subst h2;subst h3
  simp only[tD,cond_true]
 ·cases aw
theorem LX.go(hm:P.follows .mixedOrders=true)(hT:lH P T){n:Nat}{ns:List Nat}{tr:List TE}{A:Prop}{K':List eh}{s':St}(rz:sin.all (fun p=>Nat.ble fn.ntmps p.1)=true)(hA:A)(aw:tT ns (run P T fn n K s tr)=some (K',s',A))
  (h:LX P fn K' s' sin rx sout):LX P fn K s sin rx sout:=by
 intro Γ hs hn hI AD
 unfold tT at aw
 split at aw
 ·rename_i K2 s2 ob h0
  injection aw with aw;injection aw with h1 h2;injection h2 with h2 h3
  subst h1;subst h2;subst h3
  have R8:∀r,aS Γ.sin r→Γ.n≤r:=by subst hs;exact IG (by rw[hn];exact rz)
  exact sA hm hT R8 hn n _ _ tr _ ob h0 (sB ns ob hA) (h Γ hs hn hI AD)
 ·cases aw
theorem L.go(hm:P.follows .mixedOrders=true)(hT:lH P T){n:Nat}{ns:List Nat}{tr:List TE}{A:Prop}{K':List eh}{s':St}(hA:A)(aw:tT ns (run P T fn n K s tr)=some (K',s',A))(h:L P fn K' s' r):L P fn K s r :=
 LX.go hm hT rfl hA aw h
theorem av.OJ{f:FuncId}{args:List EV}(hf:P.funcs[f]? = some fn)(mK:E8 fn args.length sin=true)(h:LX P fn [.code (az fn)] ⟨kZ 0 args,sin⟩ sin rx sout):av P f args sin rx sout:=by
 unfold E8 at mK
 simp only[Bool.and_eq_true,Bool.not_eq_true'] at mK
 exact av.of hf (Dn mK.1.1.1.1) mK.1.1.1.2 (Nat.le_of_ble_eq_true mK.1.1.2) (Nat.le_of_ble_eq_true mK.2) h
theorem fG.OJ{f:FuncId}{args:List PV}(hf:P.funcs[f]? = some fn)(mK:E8 fn (args.map EV.pv).length []=true)(h:L P fn [.code (az fn)] ⟨kZ 0 (args.map EV.pv),[]⟩ r):fG P f args r :=
 av.OJ hf mK h
end
abbrev iI(n:Int):Hint := .pv (.int .i64 n)
abbrev iU(n:Nat):Hint := .pv (.int .u64 (n:Int))
abbrev iW(w:UInt32):Hint := .pv (.int .u32 (w.toNat:Int))
abbrev vI(n:Int):PV := .int .i64 n
abbrev vU(n:Nat):PV := .int .u64 (n:Int)
abbrev vW(w:UInt32):PV := .int .u32 (w.toNat:Int)
abbrev vB(b:Bool):PV := .bool b
abbrev eI(n:Int):EV := .pv (.int .i64 n)
abbrev eU(n:Nat):EV := .pv (.int .u64 (n:Int))
abbrev eW(w:UInt32):EV := .pv (.int .u32 (w.toNat:Int))
abbrev eB(b:Bool):EV := .pv (.bool b)
def dr(a b:Nat)(hs:List Hint):TE := .RJ [] (List.range a) (List.range' a b) hs
end Go.Proofs.YtfjfekodeplcoaaGreat.Sym
