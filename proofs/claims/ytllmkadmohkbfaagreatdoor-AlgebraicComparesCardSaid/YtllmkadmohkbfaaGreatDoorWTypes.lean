/- Lemmas for the statements of this seat. -/
import Derived.Test.YtllmkadmohkbfaaGreatDoorWSymU
namespace Go.Proofs.YtllmkadmohkbfaaGreatDoor.Sym
open Go
abbrev Words:=List UInt32
def ai(n:UInt32):List PV:=[.int .u32 (n.toNat:Int)]
abbrev ag(l:Words):PV := .list (l.map ai)
def cJ(n:Int):List PV:=[.int .i64 n]
def pY(s:ByteArray):List PV:=[.str s]
abbrev bq{α:Type}(enc:α→List PV)(l:List α):PV := .list (l.map enc)
def an{α:Type}(enc:α→List PV)(l:List α):List PV:=[bq enc l]
def bC:Option Int→PV
 |none => .aq
 |some n => .iface 67 (.int .i64 n)
def CZ(e:Option Int):List PV:=[bC e]
def aA(fn:Func):Code:=match fn.body with
 |some c=>c
 |none => .skip
theorem Lc{fn:Func}(h:fn.body.isSome=true):fn.body=some (aA fn):=by
 unfold aA
 cases hb:fn.body with
 |none=>rw[hb] at h;cases h
 |some c=>rfl
def focus:List Nat→List gC→List gC
 |[],K=>K
 |0::p,.code (.seq a b)::K=>focus p (.code a :: .code b::K)
 |0::p,.code (.block id c)::K=>focus p (.code c :: .GF id::K)
 |0::p,.code (.loop c)::K=>focus p (.zH c::K)
 |0::p,.zH c::K=>focus p (.code c :: .zH c::K)
 |0::p,.code (.cond _ a _)::K=>focus p (.code a::K)
 |1::p,.code (.cond _ _ b)::K=>focus p (.code b::K)
 |2::p,_::K=>focus p K
 |_,K=>K
def br:List gC→Array Oper
 |.code (.region _ ops _)::_=>ops
 |_ => #[]
def LX(P:Program)(fn:Func)(K:List gC)(s:St)(sin:cq)(r:EV)(sout:cq):Prop :=
 ∀Γ:Ctx,Γ.sin=sin→Γ.n=fn.ntmps→(∀b,Γ.I0 b→b<Γ.w0.heap.size)→CH Γ.β0 Γ.I0 Γ.w0 Γ.sin→Sat P fn Γ (zP sin sout r Γ.β0 Γ.I0 Γ.w0) K s
def L(P:Program)(fn:Func)(K:List gC)(s:St)(r:PV):Prop:=LX P fn K s [] (.pv r) []
def QP:List Nat→List Prop→Prop
 |[],ob=>je ob
 |n::ns,ob=>je (ob.take n)∧QP ns (ob.drop n)
theorem je.join:∀{l m:List Prop},je l→je m→je (l++m)
 |[],_,_,h=>h
 |[p],[],h,_=>h
 |[_],_::_,h,h2=>⟨h,h2⟩
 |_::q::r,m,h,h2=>by
  have h3:=je.join (l:=q::r) h.2 h2
  exact⟨h.1,h3⟩
theorem AO:∀(ns:List Nat) (ob:List Prop),QP ns ob→je ob
 |[],_,h=>h
 |n::ns,ob,h=>by
  have:=je.join h.1 (AO ns _ h.2)
  rwa[List.take_append_drop] at this
def JP(ns:List Nat):Option (Out×List Prop)→Option (PV×Prop)
 |some (.done (.pv p) _,ob)=>some (p,QP ns ob)
 |_=>none
def I2(ns:List Nat)(sin:cq):Option (Out×List Prop)→Option (EV×cq×Prop)
 |some (.done e s,ob)=>bif sin.all (fun p=>Cw p.1||(cq.get s.bp p.1).isSome) then some (e,s.bp,QP ns ob) else none
 |_=>none
def BN(ns:List Nat):Option (Out×List Prop)→Option (List gC×St×Prop)
 |some (.loop K s,ob)=>some (K,s,QP ns ob)
 |_=>none
def MR (fn : Func) (k : Nat) (sin : cq) : Bool := fn.body.isSome && !(fn.name == "runtime.NumGoroutine") && Nat.ble k fn.ntmps && sin.all (fun p => Nat.ble fn.ntmps p.1) && Nat.ble fn.ntmps 999999
theorem cj{a b:Prop}(h:a)(k:b):a∧b:=⟨h,k⟩
section
variable {P:Program} {T:qU} {fn:Func} {K:List gC} {s:St} {r:PV} {sin sout:cq} {rx:EV}
theorem QQ{Γ:Ctx}(h:sin.all (fun p=>Nat.ble Γ.n p.1)=true):∀r,ee sin r→Γ.n≤r:=by
 intro r hr
 obtain⟨sc,we⟩:=Option.isSome_iff_exists.1 hr
 rw[List.all_eq_true] at h
 rcases cq.get_mem we with hm|⟨hm,_⟩
 ·exact Nat.le_of_ble_eq_true (h _ hm)
 ·have:=Γ.small;omega
theorem L.done(hm:P.follows .mixedOrders=true)(hT:uj P T){n:Nat}{ns:List Nat}{tr:List TE}{A:Prop}(hA:A)(aH:JP ns (run P T fn n K s tr)=some (r,A)):L P fn K s r:=by
 intro Γ hs hn _ _
 unfold JP at aH
 split at aH
 ·rename_i p s' ob h
  injection aH with aH;injection aH with h1 h2
  subst h1;subst h2
  exact AN hm hT (fun r h=>by rw[hs] at h;exact absurd h tE) hn n _ _ tr _ ob h (AO ns ob hA) (ET.pure hs rfl)
 ·cases aH
theorem LX.done(hm:P.follows .mixedOrders=true)(hT:uj P T){n:Nat}{ns:List Nat}{tr:List TE}{A:Prop}(Ik:sin.all (fun p=>Nat.ble fn.ntmps p.1)=true)(hA:A)(aH:I2 ns sin (run P T fn n K s tr)=some (rx,sout,A)):LX P fn K s sin rx sout:=by
 intro Γ hs hn hI Qv
 unfold I2 at aH
 split at aH
 ·rename_i e s' ob h
  cases hb:sin.all (fun p=>Cw p.1||(cq.get s'.bp p.1).isSome) with
  |false=>simp[hb] at aH
  |true =>
   simp only[hb,cond_true] at aH
   injection aH with aH;injection aH with h1 h2;injection h2 with h2 h3
   subst h1;subst h2;subst h3;subst hs
   refine AN hm hT (QQ (by rw[hn];exact Ik)) hn n _ _ tr _ ob h (AO ns ob hA) (ET.sites hI Qv (fun x hx hg => ?_))
   obtain⟨sc,we⟩:=Option.isSome_iff_exists.1 hx
   rw[List.all_eq_true] at hb
   have hm:(x,sc)∈Γ.sin:=by
    rcases cq.get_mem we with hm|⟨hm,_⟩
    ·exact hm
    ·exact absurd (show gv x by unfold gv;omega) hg
   rcases Bool.or_eq_true _ _ ▸ hb _ hm with h|h
   ·exact absurd (Nat.le_of_ble_eq_true h) hg
   ·exact h
 ·cases aH
theorem LX.Xe(hm:P.follows .mixedOrders=true)(hT:uj P T){n:Nat}{ns:List Nat}{tr:List TE}{A:Prop}(Ik:sin.all (fun p=>Nat.ble fn.ntmps p.1)=true)(Gk:sin.all (fun p=>Cw p.1||(cq.get sout p.1).isSome)=true)(hA:A)
  (aH:I2 ns [] (run P T fn n K s tr)=some (rx,sout,A)):LX P fn K s sin rx sout:=by
 refine LX.done hm hT Ik hA (n:=n) (ns:=ns) (tr:=tr) ?_
 unfold I2 at aH ⊢
 split at aH
 ·rename_i e s' ob h
  simp only[List.all_nil,cond_true] at aH
  injection aH with aH;injection aH with h1 h2;injection h2 with h2 h3
  subst h1;subst h2;subst h3
  simp only[Gk,cond_true]
 ·cases aH
theorem LX.go(hm:P.follows .mixedOrders=true)(hT:uj P T){n:Nat}{ns:List Nat}{tr:List TE}{A:Prop}{K':List gC}{s':St}(Ik:sin.all (fun p=>Nat.ble fn.ntmps p.1)=true)(hA:A)(aH:BN ns (run P T fn n K s tr)=some (K',s',A))
  (h:LX P fn K' s' sin rx sout):LX P fn K s sin rx sout:=by
 intro Γ hs hn hI Qv
 unfold BN at aH
 split at aH
 ·rename_i K2 s2 ob h0
  injection aH with aH;injection aH with h1 h2;injection h2 with h2 h3
  subst h1;subst h2;subst h3
  have Zx:∀r,ee Γ.sin r→Γ.n≤r:=by subst hs;exact QQ (by rw[hn];exact Ik)
  exact AN hm hT Zx hn n _ _ tr _ ob h0 (AO ns ob hA) (h Γ hs hn hI Qv)
 ·cases aH
theorem L.go(hm:P.follows .mixedOrders=true)(hT:uj P T){n:Nat}{ns:List Nat}{tr:List TE}{A:Prop}{K':List gC}{s':St}(hA:A)(aH:BN ns (run P T fn n K s tr)=some (K',s',A))(h:L P fn K' s' r):L P fn K s r :=
 LX.go hm hT rfl hA aH h
theorem av.Wp{f:FuncId}{args:List EV}(hf:P.funcs[f]? = some fn)(vb:MR fn args.length sin=true)(h:LX P fn [.code (aA fn)] ⟨rP 0 args,sin⟩ sin rx sout):av P f args sin rx sout:=by
 unfold MR at vb
 simp only[Bool.and_eq_true,Bool.not_eq_true'] at vb
 exact av.of hf (Lc vb.1.1.1.1) vb.1.1.1.2 (Nat.le_of_ble_eq_true vb.1.1.2) (Nat.le_of_ble_eq_true vb.2) h
theorem kV.Wp{f:FuncId}{args:List PV}(hf:P.funcs[f]? = some fn)(vb:MR fn (args.map EV.pv).length []=true)(h:L P fn [.code (aA fn)] ⟨rP 0 (args.map EV.pv),[]⟩ r):kV P f args r :=
 av.Wp hf vb h
end
abbrev iI(n:Int):Hint := .pv (.int .i64 n)
abbrev iU(n:Nat):Hint := .pv (.int .u64 (n:Int))
abbrev iW(w:UInt32):Hint := .pv (.int .u32 (w.toNat:Int))
abbrev vI(n:Int):PV := .int .i64 n
abbrev vU(n:Nat):PV := .int .u64 (n:Int)
abbrev vW(w:UInt32):PV := .int .u32 (w.toNat:Int)
abbrev vB(b:Bool):PV := .bool b
abbrev eI(n:Int):EV := .pv (.int .i64 n)
abbrev eU(n:Nat):EV := .pv (.int .u64 (n:Int))
abbrev eW(w:UInt32):EV := .pv (.int .u32 (w.toNat:Int))
abbrev eB(b:Bool):EV := .pv (.bool b)
def dr(a b:Nat)(hs:List Hint):TE := .Y7 [] (List.range a) (List.range' a b) hs
end Go.Proofs.YtllmkadmohkbfaaGreatDoor.Sym
