/- Lemmas for the statements of this seat. -/
import Derived.Test.YtcpnocgollpbhaaGreatDoorW23
namespace Go.Proofs.YtcpnocgollpbhaaGreatDoor.Sym
open Go
abbrev Words:=List UInt32
def aj(n:UInt32):List PV:=[.int .u32 (n.toNat:Int)]
abbrev af(l:Words):PV := .list (l.map aj)
def gX(n:Int):List PV:=[.int .i64 n]
def kE(s:ByteArray):List PV:=[.str s]
abbrev bB{α:Type}(enc:α→List PV)(l:List α):PV := .list (l.map enc)
def bp{α:Type}(enc:α→List PV)(l:List α):List PV:=[bB enc l]
def bW:Option Int→PV
 |none => .aC
 |some n => .iface 75 (.int .i64 n)
def aL(fn:Func):Code:=match fn.body with
 |some c=>c
 |none => .skip
theorem IB{fn:Func}(h:fn.body.isSome=true):fn.body=some (aL fn):=by
 unfold aL;cases hb:fn.body with
 |none=>rw[hb] at h;cases h
 |some c=>rfl
def focus:List Nat→List dJ→List dJ
 |[],K=>K
 |0::p,.code (.seq a b)::K=>focus p (.code a :: .code b::K)
 |0::p,.code (.block id c)::K=>focus p (.code c :: .CQ id::K)
 |0::p,.code (.loop c)::K=>focus p (.tV c::K)
 |0::p,.tV c::K=>focus p (.code c :: .tV c::K)
 |0::p,.code (.cond _ a _)::K=>focus p (.code a::K)
 |1::p,.code (.cond _ _ b)::K=>focus p (.code b::K)
 |2::p,_::K=>focus p K
 |_,K=>K
def LW:List dJ→Array Oper
 |.code (.region _ ops _)::_=>ops
 |_ => #[]
def qF(P:Program)(T:lh)(fn:Func)(m:List Nat)(fl:List Nat)(hs:List Hint)(s:St):Prop :=
 z6 P T fn.ntmps (LW (focus m [.code (aL fn)])) (KA (LW (focus m [.code (aL fn)])) fl) (Tx (LW (focus m [.code (aL fn)])) fl) hs (R3 T fn.ntmps (LW (focus m [.code (aL fn)])) fl s)
def LX(P:Program)(fn:Func)(K:List dJ)(s:St)(sin:aT)(r:EV)(sout:aT):Prop :=
 ∀Γ:Ctx,Γ.sin=sin→Γ.n=fn.ntmps→(∀b,Γ.I0 b→b<Γ.w0.heap.size)→xX Γ.β0 Γ.I0 Γ.w0 Γ.sin→Sat P fn Γ (uf sin sout r Γ.β0 Γ.I0 Γ.w0) K s
def L(P:Program)(fn:Func)(K:List dJ)(s:St)(r:PV):Prop:=LX P fn K s [] (.pv r) []
def UU:List Prop→Prop
 |[]=>True
 |p::ob=>p∧UU ob
def Pk:List Nat→List Prop→Prop
 |[],ob=>UU ob
 |n::ns,ob=>dX (ob.take n)∧Pk ns (ob.drop n)
theorem dX.join:∀{l m:List Prop},dX l→dX m→dX (l++m)
 |[],_,_,h=>h
 |[p],[],h,_=>h
 |[_],_::_,h,h2=>⟨h,h2⟩
 |_::q::r,m,h,h2=>by have h3:=dX.join (l:=q::r) h.2 h2;exact⟨h.1,h3⟩
theorem Fg:∀(ob:List Prop),UU ob→dX ob
 |[],h=>h
 |[_],h=>h.1
 |_::q::ob,h=>⟨h.1,Fg (q::ob) h.2⟩
theorem vr:∀(ns:List Nat) (ob:List Prop),Pk ns ob→dX ob
 |[],ob,h=>Fg ob h
 |n::ns,ob,h=>by have:=dX.join h.1 (vr ns _ h.2);rwa[ahB] at this
def Gx(ns:List Nat):Option (Out×List Prop)→Option (PV×Prop)
 |some (.done (.pv p) _,ob)=>some (p,Pk ns ob)
 |_=>none
def Fh(ns:List Nat)(sin:aT):Option (Out×List Prop)→Option (EV×aT×Prop)
 |some (.done e s,ob)=>bif sin.all (fun p=>wo p.1||(aT.get s.aK p.1).isSome) then some (e,s.aK,Pk ns ob) else none
 |_=>none
def xa(ns:List Nat):Option (Out×List Prop)→Option (List dJ×St×Prop)
 |some (.loop K s,ob)=>some (K,s,Pk ns ob)
 |_=>none
def KB (fn : Func) (k : Nat) (sin : aT) : Bool := fn.body.isSome && !(fn.name == "runtime.NumGoroutine") && Nat.ble k fn.ntmps && sin.all (fun p => Nat.ble fn.ntmps p.1) && Nat.ble fn.ntmps 999999
theorem cj{a b:Prop}(h:a)(k:b):a∧b:=⟨h,k⟩
section
variable {P:Program} {T:lh} {fn:Func} {K:List dJ} {s:St} {r:PV} {sin sout:aT} {rx:EV}
theorem Pm{Γ:Ctx}(h:sin.all (fun p=>Nat.ble Γ.n p.1)=true):∀r,bK sin r→Γ.n≤r:=by
 intro r hr;obtain⟨sc,pk⟩:=afS.1 hr;rw[agb] at h;rcases aT.get_mem pk with hm|⟨hm,_⟩
 ·exact afv (h _ hm)
 ·have:=Γ.small;omega
theorem L.done(hm:P.follows .mixedOrders=true)(hT:oE P T){n:Nat}{ns:List Nat}{tr:List TE}{A:Prop}(hA:A)(aw:Gx ns (run P T fn n K s tr)=some (r,A)):L P fn K s r:=by
 intro Γ hs hn _ _;unfold Gx at aw;split at aw
 ·rename_i p s' ob h;injection aw with aw;injection aw with h1 h2
  subst h1;subst h2;exact vp hm hT (fun r h=>by rw[hs] at h;exact absurd h qK) hn n _ _ tr _ ob h (vr ns ob hA) (AU.pure hs rfl)
 ·cases aw
theorem LX.done(hm:P.follows .mixedOrders=true)(hT:oE P T){n:Nat}{ns:List Nat}{tr:List TE}{A:Prop}(EC:sin.all (fun p=>Nat.ble fn.ntmps p.1)=true)(hA:A)(aw:Fh ns sin (run P T fn n K s tr)=some (rx,sout,A)):LX P fn K s sin rx sout:=by
 intro Γ hs hn hI OZ;unfold Fh at aw;split at aw
 ·rename_i e s' ob h;cases hb:sin.all (fun p=>wo p.1||(aT.get s'.aK p.1).isSome) with
  |false=>simp[hb] at aw
  |true =>
   simp only[hb,cond_true] at aw;injection aw with aw;injection aw with h1 h2;injection h2 with h2 h3
   subst h1;subst h2;subst h3;subst hs;refine vp hm hT (Pm (by rw[hn];exact EC)) hn n _ _ tr _ ob h (vr ns ob hA) (AU.sites hI OZ (fun x hx hg => ?_));obtain⟨sc,pk⟩:=afS.1 hx;rw[agb] at hb;have hm:(x,sc)∈Γ.sin:=by
    rcases aT.get_mem pk with hm|⟨hm,_⟩
    ·exact hm
    ·exact absurd (show gv x by unfold gv;omega) hg
   rcases ahK _ _ ▸ hb _ hm with h|h
   ·exact absurd (afv h) hg
   ·exact h
 ·cases aw
theorem LX.Xr(hm:P.follows .mixedOrders=true)(hT:oE P T){n:Nat}{ns:List Nat}{tr:List TE}{A:Prop}(EC:sin.all (fun p=>Nat.ble fn.ntmps p.1)=true)(xU:sin.all (fun p=>wo p.1||(aT.get sout p.1).isSome)=true)(hA:A)
  (aw:Fh ns [] (run P T fn n K s tr)=some (rx,sout,A)):LX P fn K s sin rx sout:=by
 refine LX.done hm hT EC hA (n:=n) (ns:=ns) (tr:=tr) ?_;unfold Fh at aw ⊢;split at aw
 ·rename_i e s' ob h;simp only[List.all_nil,cond_true] at aw;injection aw with aw;injection aw with h1 h2;injection h2 with h2 h3
  subst h1;subst h2;subst h3;simp only[xU,cond_true]
 ·cases aw
theorem LX.go(hm:P.follows .mixedOrders=true)(hT:oE P T){n:Nat}{ns:List Nat}{tr:List TE}{A:Prop}{K':List dJ}{s':St}(EC:sin.all (fun p=>Nat.ble fn.ntmps p.1)=true)(hA:A)(aw:xa ns (run P T fn n K s tr)=some (K',s',A))
  (h:LX P fn K' s' sin rx sout):LX P fn K s sin rx sout:=by
 intro Γ hs hn hI OZ;unfold xa at aw;split at aw
 ·rename_i K2 s2 ob h0;injection aw with aw;injection aw with h1 h2;injection h2 with h2 h3
  subst h1;subst h2;subst h3;have Z9:∀r,bK Γ.sin r→Γ.n≤r:=by subst hs;exact Pm (by rw[hn];exact EC)
  exact vp hm hT Z9 hn n _ _ tr _ ob h0 (vr ns ob hA) (h Γ hs hn hI OZ)
 ·cases aw
theorem L.go(hm:P.follows .mixedOrders=true)(hT:oE P T){n:Nat}{ns:List Nat}{tr:List TE}{A:Prop}{K':List dJ}{s':St}(hA:A)(aw:xa ns (run P T fn n K s tr)=some (K',s',A))(h:L P fn K' s' r):L P fn K s r :=
 LX.go hm hT rfl hA aw h
theorem au.WD{f:FuncId}{args:List EV}(hf:P.funcs[f]? = some fn)(pI:KB fn args.length sin=true)(h:LX P fn [.code (aL fn)] ⟨mC 0 args,sin⟩ sin rx sout):au P f args sin rx sout:=by unfold KB at pI;simp only[Bool.and_eq_true,Bool.not_eq_true'] at pI;exact au.of hf (IB pI.1.1.1.1) pI.1.1.1.2 (afv pI.1.1.2) (afv pI.2) h
theorem eM.WD{f:FuncId}{args:List PV}(hf:P.funcs[f]? = some fn)(pI:KB fn (args.map EV.pv).length []=true)(h:L P fn [.code (aL fn)] ⟨mC 0 (args.map EV.pv),[]⟩ r):eM P f args r :=
 au.WD hf pI h
end
abbrev iI(n:Int):Hint := .pv (.int .i64 n)
abbrev iU(n:Nat):Hint := .pv (.int .u64 (n:Int))
abbrev iW(w:UInt32):Hint := .pv (.int .u32 (w.toNat:Int))
abbrev vI(n:Int):PV := .int .i64 n
abbrev vU(n:Nat):PV := .int .u64 (n:Int)
abbrev vW(w:UInt32):PV := .int .u32 (w.toNat:Int)
abbrev vB(b:Bool):PV := .bool b
abbrev eI(n:Int):EV := .pv (.int .i64 n)
abbrev eU(n:Nat):EV := .pv (.int .u64 (n:Int))
abbrev eW(w:UInt32):EV := .pv (.int .u32 (w.toNat:Int))
abbrev eB(b:Bool):EV := .pv (.bool b)
def dr(a b:Nat)(hs:List Hint):TE := .ZI [] (List.range a) (List.range' a b) hs
end Go.Proofs.YtcpnocgollpbhaaGreatDoor.Sym
