/- Lemmas for the statements of this seat. -/
import Derived.Test.YtneklnlpgfeplaaGreatW25
namespace Go.Proofs.YtneklnlpgfeplaaGreat.Sym
open Go
abbrev Words:=List UInt32
def aE(n:UInt32):List PV:=[.int .u32 (n.toNat:Int)]
abbrev af(l:Words):PV := .list (l.map aE)
def aj(n:Int):List PV:=[.int .i64 n]
def ak(b:Bool):List PV:=[.bool b]
abbrev an{α:Type}(enc:α→List PV)(l:List α):PV := .list (l.map enc)
def dF{α:Type}(enc:α→List PV)(l:List α):List PV:=[an enc l]
def ee:Option Int→PV
 |none => .ar
 |some n => .iface 86 (.int .i64 n)
def aS(fn:Func):Code:=match fn.body with
 |some c=>c
 |none => .skip
theorem tj{fn:Func}(h:fn.body.isSome=true):fn.body=some (aS fn):=by
 unfold aS;cases hb:fn.body with
 |none=>rw[hb] at h;cases h
 |some c=>rfl
def focus:List Nat→List eh→List eh
 |[],K=>K
 |0::p,.code (.seq a b)::K=>focus p (.code a :: .code b::K)
 |0::p,.code (.block id c)::K=>focus p (.code c :: .rk id::K)
 |0::p,.code (.loop c)::K=>focus p (.lJ c::K)
 |0::p,.lJ c::K=>focus p (.code c :: .lJ c::K)
 |0::p,.code (.cond _ a _)::K=>focus p (.code a::K)
 |1::p,.code (.cond _ _ b)::K=>focus p (.code b::K)
 |2::p,_::K=>focus p K
 |_,K=>K
def bX:List eh→Array Oper
 |.code (.region _ ops _)::_=>ops
 |_ => #[]
def xG(P:Program)(T:ja)(fn:Func)(m:List Nat)(fl:List Nat)(hs:List Hint)(s:St):Prop :=
 Cd P T fn.ntmps (bX (focus m [.code (aS fn)])) (sC (bX (focus m [.code (aS fn)])) fl) (uO (bX (focus m [.code (aS fn)])) fl) hs (Fa T fn.ntmps (bX (focus m [.code (aS fn)])) fl s)
def Fc(P:Program)(T:ja)(fn:Func)(mv:List Nat)(fl:List Nat)(hs:List Hint)(s:St)(k:Nat):Prop :=
 ((my (bX (focus mv [.code (aS fn)])) (uO (bX (focus mv [.code (aS fn)])) fl)).drop k).map (AF P T fn.ntmps (bX (focus mv [.code (aS fn)])) hs (sC (bX (focus mv [.code (aS fn)])) fl) (uM (bX (focus mv [.code (aS fn)])) (Fa T fn.ntmps (bX (focus mv [.code (aS fn)])) fl s)) (uN (bX (focus mv [.code (aS fn)])) (Fa T fn.ntmps (bX (focus mv [.code (aS fn)])) fl s)) (Fa T fn.ntmps (bX (focus mv [.code (aS fn)])) fl s)) =
 I6 (AG P T fn.ntmps (bX (focus mv [.code (aS fn)])) hs (sC (bX (focus mv [.code (aS fn)])) fl) (uM (bX (focus mv [.code (aS fn)])) (Fa T fn.ntmps (bX (focus mv [.code (aS fn)])) fl s)) (uN (bX (focus mv [.code (aS fn)])) (Fa T fn.ntmps (bX (focus mv [.code (aS fn)])) fl s)) (Fa T fn.ntmps (bX (focus mv [.code (aS fn)])) fl s) (E9 P T fn.ntmps (bX (focus mv [.code (aS fn)])) hs (sC (bX (focus mv [.code (aS fn)])) fl) (Fa T fn.ntmps (bX (focus mv [.code (aS fn)])) fl s))) ((my (bX (focus mv [.code (aS fn)])) (uO (bX (focus mv [.code (aS fn)])) fl)).drop k)
def pD(P:Program)(T:ja)(fn:Func)(mv:List Nat)(fl:List Nat)(hs:List Hint)(s:St)(k m:Nat):Prop :=
 (((my (bX (focus mv [.code (aS fn)])) (uO (bX (focus mv [.code (aS fn)])) fl)).drop k).take m).map (AF P T fn.ntmps (bX (focus mv [.code (aS fn)])) hs (sC (bX (focus mv [.code (aS fn)])) fl) (uM (bX (focus mv [.code (aS fn)])) (Fa T fn.ntmps (bX (focus mv [.code (aS fn)])) fl s)) (uN (bX (focus mv [.code (aS fn)])) (Fa T fn.ntmps (bX (focus mv [.code (aS fn)])) fl s)) (Fa T fn.ntmps (bX (focus mv [.code (aS fn)])) fl s)) =
 I6 (AG P T fn.ntmps (bX (focus mv [.code (aS fn)])) hs (sC (bX (focus mv [.code (aS fn)])) fl) (uM (bX (focus mv [.code (aS fn)])) (Fa T fn.ntmps (bX (focus mv [.code (aS fn)])) fl s)) (uN (bX (focus mv [.code (aS fn)])) (Fa T fn.ntmps (bX (focus mv [.code (aS fn)])) fl s)) (Fa T fn.ntmps (bX (focus mv [.code (aS fn)])) fl s) (E9 P T fn.ntmps (bX (focus mv [.code (aS fn)])) hs (sC (bX (focus mv [.code (aS fn)])) fl) (Fa T fn.ntmps (bX (focus mv [.code (aS fn)])) fl s))) (((my (bX (focus mv [.code (aS fn)])) (uO (bX (focus mv [.code (aS fn)])) fl)).drop k).take m)
theorem jb{P:Program}{T:ja}{fn:Func}{mv fl:List Nat}{hs:List Hint}{s:St}{k m:Nat}(h1:pD P T fn mv fl hs s k m)(h2:Fc P T fn mv fl hs s (k+m)):Fc P T fn mv fl hs s k:=by unfold Fc pD at *;rw[zu] at *;rw[←aex] at h2;generalize (my (bX (focus mv [.code (aS fn)])) (uO (bX (focus mv [.code (aS fn)])) fl)).drop k=E at *;rw[←ad1 m E,adu,adu,h1,h2]
theorem H6{P:Program}{T:ja}{fn:Func}{mv fl:List Nat}{hs:List Hint}{s:St}(h:Fc P T fn mv fl hs s 0):xG P T fn mv fl hs s:=h
def LX(P:Program)(fn:Func)(K:List eh)(s:St)(sin:aY)(r:EV)(sout:aY):Prop :=
 ∀Γ:Ctx,Γ.sin=sin→Γ.n=fn.ntmps→(∀b,Γ.I0 b→b<Γ.w0.heap.size)→mw Γ.β0 Γ.I0 Γ.w0 Γ.sin→Sat P fn Γ (iP sin sout r Γ.β0 Γ.I0 Γ.w0) K s
def L(P:Program)(fn:Func)(K:List eh)(s:St)(r:PV):Prop:=LX P fn K s [] (.pv r) []
def PO:List Prop→Prop
 |[]=>True
 |p::ob=>p∧PO ob
def GM:List Nat→List Prop→Prop
 |[],ob=>PO ob
 |n::ns,ob=>dW (ob.take n)∧GM ns (ob.drop n)
theorem dW.join:∀{l m:List Prop},dW l→dW m→dW (l++m)
 |[],_,_,h=>h
 |[p],[],h,_=>h
 |[_],_::_,h,h2=>⟨h,h2⟩
 |_::q::r,m,h,h2=>by have h3:=dW.join (l:=q::r) h.2 h2;exact⟨h.1,h3⟩
theorem CG:∀(ob:List Prop),PO ob→dW ob
 |[],h=>h
 |[_],h=>h.1
 |_::q::ob,h=>⟨h.1,CG (q::ob) h.2⟩
theorem mI:∀(ns:List Nat) (ob:List Prop),GM ns ob→dW ob
 |[],ob,h=>CG ob h
 |n::ns,ob,h=>by have:=dW.join h.1 (mI ns _ h.2);rwa[ad1] at this
def DO(ns:List Nat):Option (Out×List Prop)→Option (PV×Prop)
 |some (.done (.pv p) _,ob)=>some (p,GM ns ob)
 |_=>none
def CH(ns:List Nat)(sin:aY):Option (Out×List Prop)→Option (EV×aY×Prop)
 |some (.done e s,ob)=>bif sin.all (fun p=>nP p.1||(aY.get s.aP p.1).isSome) then some (e,s.aP,GM ns ob) else none
 |_=>none
def mJ(ns:List Nat):Option (Out×List Prop)→Option (List eh×St×Prop)
 |some (.loop K s,ob)=>some (K,s,GM ns ob)
 |_=>none
def AJ (fn : Func) (k : Nat) (sin : aY) : Bool := fn.body.isSome && !(fn.name == "runtime.NumGoroutine") && Nat.ble k fn.ntmps && sin.all (fun p => Nat.ble fn.ntmps p.1) && Nat.ble fn.ntmps 999999
theorem cj{a b:Prop}(h:a)(k:b):a∧b:=⟨h,k⟩
section
variable {P:Program} {T:ja} {fn:Func} {K:List eh} {s:St} {r:PV} {sin sout:aY} {rx:EV}
theorem KK{Γ:Ctx}(h:sin.all (fun p=>Nat.ble Γ.n p.1)=true):∀r,bz sin r→Γ.n≤r:=by
 intro r hr;obtain⟨sc,gS⟩:=abP.1 hr;rw[abX] at h;rcases aY.get_mem gS with hm|⟨hm,_⟩
 ·exact abM (h _ hm)
 ·have:=Γ.small;omega
theorem L.done(hm:P.follows .mixedOrders=true)(hT:mm P T){n:Nat}{ns:List Nat}{tr:List TE}{A:Prop}(hA:A)(aJ:DO ns (run P T fn n K s tr)=some (r,A)):L P fn K s r:=by
 intro Γ hs hn _ _;unfold DO at aJ;split at aJ
 ·rename_i p s' ob h;injection aJ with aJ;injection aJ with h1 h2
  subst h1;subst h2;exact ue hm hT (fun r h=>by rw[hs] at h;exact absurd h jU) hn n _ _ tr _ ob h (mI ns ob hA) (yh.pure hs rfl)
 ·cases aJ
theorem LX.done(hm:P.follows .mixedOrders=true)(hT:mm P T){n:Nat}{ns:List Nat}{tr:List TE}{A:Prop}(Aa:sin.all (fun p=>Nat.ble fn.ntmps p.1)=true)(hA:A)(aJ:CH ns sin (run P T fn n K s tr)=some (rx,sout,A)):LX P fn K s sin rx sout:=by
 intro Γ hs hn hI zm;unfold CH at aJ;split at aJ
 ·rename_i e s' ob h;cases hb:sin.all (fun p=>nP p.1||(aY.get s'.aP p.1).isSome) with
  |false=>simp[hb] at aJ
  |true =>
   simp only[hb,cond_true] at aJ;injection aJ with aJ;injection aJ with h1 h2;injection h2 with h2 h3
   subst h1;subst h2;subst h3;subst hs;refine ue hm hT (KK (by rw[hn];exact Aa)) hn n _ _ tr _ ob h (mI ns ob hA) (yh.sites hI zm (fun x hx hg => ?_));obtain⟨sc,gS⟩:=abP.1 hx;rw[abX] at hb;have hm:(x,sc)∈Γ.sin:=by
    rcases aY.get_mem gS with hm|⟨hm,_⟩
    ·exact hm
    ·exact absurd (show gv x by unfold gv;omega) hg
   rcases adq _ _ ▸ hb _ hm with h|h
   ·exact absurd (abM h) hg
   ·exact h
 ·cases aJ
theorem LX.SA(hm:P.follows .mixedOrders=true)(hT:mm P T){n:Nat}{ns:List Nat}{tr:List TE}{A:Prop}(Aa:sin.all (fun p=>Nat.ble fn.ntmps p.1)=true)(zX:sin.all (fun p=>nP p.1||(aY.get sout p.1).isSome)=true)(hA:A)
  (aJ:CH ns [] (run P T fn n K s tr)=some (rx,sout,A)):LX P fn K s sin rx sout:=by
 refine LX.done hm hT Aa hA (n:=n) (ns:=ns) (tr:=tr) ?_;unfold CH at aJ ⊢;split at aJ
 ·rename_i e s' ob h;simp only[List.all_nil,cond_true] at aJ;injection aJ with aJ;injection aJ with h1 h2;injection h2 with h2 h3
  subst h1;subst h2;subst h3;simp only[zX,cond_true]
 ·cases aJ
theorem LX.go(hm:P.follows .mixedOrders=true)(hT:mm P T){n:Nat}{ns:List Nat}{tr:List TE}{A:Prop}{K':List eh}{s':St}(Aa:sin.all (fun p=>Nat.ble fn.ntmps p.1)=true)(hA:A)(aJ:mJ ns (run P T fn n K s tr)=some (K',s',A))
  (h:LX P fn K' s' sin rx sout):LX P fn K s sin rx sout:=by
 intro Γ hs hn hI zm;unfold mJ at aJ;split at aJ
 ·rename_i K2 s2 ob h0;injection aJ with aJ;injection aJ with h1 h2;injection h2 with h2 h3
  subst h1;subst h2;subst h3;have V9:∀r,bz Γ.sin r→Γ.n≤r:=by subst hs;exact KK (by rw[hn];exact Aa)
  exact ue hm hT V9 hn n _ _ tr _ ob h0 (mI ns ob hA) (h Γ hs hn hI zm)
 ·cases aJ
theorem L.go(hm:P.follows .mixedOrders=true)(hT:mm P T){n:Nat}{ns:List Nat}{tr:List TE}{A:Prop}{K':List eh}{s':St}(hA:A)(aJ:mJ ns (run P T fn n K s tr)=some (K',s',A))(h:L P fn K' s' r):L P fn K s r :=
 LX.go hm hT rfl hA aJ h
theorem ag.Ru{f:FuncId}{args:List EV}(hf:P.funcs[f]? = some fn)(gk:AJ fn args.length sin=true)(h:LX P fn [.code (aS fn)] ⟨jX 0 args,sin⟩ sin rx sout):ag P f args sin rx sout:=by unfold AJ at gk;simp only[Bool.and_eq_true,Bool.not_eq_true'] at gk;exact ag.of hf (tj gk.1.1.1.1) gk.1.1.1.2 (abM gk.1.1.2) (abM gk.2) h
theorem eN.Ru{f:FuncId}{args:List PV}(hf:P.funcs[f]? = some fn)(gk:AJ fn (args.map EV.pv).length []=true)(h:L P fn [.code (aS fn)] ⟨jX 0 (args.map EV.pv),[]⟩ r):eN P f args r :=
 ag.Ru hf gk h
end
theorem KL{pre post:aY}{x:Nat}(h:∀p∈pre,p.1<100000)(hx:100000≤x):(pre++post).cD x=post.cD x:=by
 induction pre with
 |nil=>rfl
 |cons p pre ih =>obtain⟨r,sc⟩:=p;have hr:=h (r,sc) (acO ..);rw[adV,aY.cD,gm (by have:r<100000:=hr;omega),ac1];exact ih fun p hp=>h p (acA _ hp)
def Uy(post:aY):EV→Bool
 |.pv _=>true
 |.ptr r _=>(post.get r).isSome
 |.row r _ _ _=>(post.get r).isSome
 |.mD _ r=>(post.get r).isSome
 |.cM _ bs rs=>(bs++rs).all fun r=>(post.get r).isSome
 |_=>false
def GN(post:aY):SC→Bool
 |.pure _=>true
 |.lit cs=>cs.all (Uy post)
 |_=>false
theorem RE.Uy{β:Nat→Option Nat}{L I I':Nat→Prop}{w:World}{post:aY}{e:EV}{v:Value}(h:RE β L I w e v)(hp:Sym.Uy post e=true)(hI:∀b,I b→I' b):RE β (bz post) I' w e v:=by
 cases e with
 |pv p=>exact Rd.mono h hI (fun _ _ _=>rfl)
 |ptr r off=>exact⟨hp,h.2⟩
 |row r off len sz=>exact⟨hp,h.2⟩
 |mD f r=>exact⟨hp,h.2⟩
 |cM f bs rs=>exact⟨fun r hr=>abX.1 hp r hr,h.2⟩
 |_=>cases hp
theorem RB.GN{β:Nat→Option Nat}{L I I':Nat→Prop}{w:World}{r:Nat}{post:aY}{sc:SC}(hc:Sym.GN post sc=true)(h:RB β L I w r sc.oe)(hI:∀b,I b→I' b):RB β (bz post) I' w r sc.oe:=by
 rcases h with ⟨h1,h2⟩|⟨b,arr,el,h1,h2,h3⟩
 ·exact .inl ⟨h1,h2⟩
 ·refine .inr ⟨b,arr,el,h1,h2,fun j e he => ?_⟩;obtain⟨u,g1,g2,g3⟩:=h3 j e he;refine⟨u,g1,g2,g3.Uy ?_ hI⟩;have hm:=ac5 he;cases sc with
  |pure ps =>obtain⟨p,_,rfl⟩:=aca.1 hm;rfl
  |lit cs=>exact abX.1 hc e hm
  |_=>cases hc
theorem ag.pE{P:Program}{f:FuncId}{args:List EV}{sin pre post:aY}{p:PV}(SB:ag P f args sin (.pv p) (pre++post))
  (h1:pre.all (fun p=>Nat.blt p.1 100000)=true) (h2:post.all (fun p=>Nat.ble 100000 p.1&&Nat.blt p.1 999999&&GN post p.2)=true):ag P f args sin (.pv p) post:=by
 rw[abX] at h1 h2;have Oi:∀q∈post,q.1<999999:=fun q hq=>by have:=h2 q hq;simp only[Bool.and_eq_true] at this;exact abM this.1.2
 have hs:∀x sc,aY.get post x=some sc→aY.get (pre++post) x=some sc∧GN post sc=true:=fun x sc h=>by have hm:=aY.s8 Oi h;have:=h2 _ hm;simp only[Bool.and_eq_true] at this;have h5:100000≤x:=abM this.1.1;have hx:x<999999:=abM this.1.2;refine⟨?_,this.2⟩;rw[aY.jB hx] at h ⊢;rw[KL (fun p hp=>abM (h1 p hp)) h5,h]
 have hd:∀x,bz post x→bz (pre++post) x:=fun x hx=>by obtain⟨sc,h⟩:=abP.1 hx;unfold bz;rw[(hs x sc h).1];rfl
 refine⟨SB.1,fun I w β vs hI zm MP hv hy=>(SB.2 I w β vs hI zm MP hv hy).mono fun e w' hp => ?_⟩;obtain⟨v,β',rfl,p1,p2,p3,p4,p5⟩:=hp;have Mr:∀b,(I b∨((fresh w w' b∨B3 sin β b)∧∀x,bz (pre++post) x→β' x≠some b))→(I b∨((fresh w w' b∨B3 sin β b)∧∀x,bz post x→β' x≠some b)) :=
  fun b hb=>hb.imp id (fun h=>⟨h.1,fun x hx=>h.2 x (hd x hx)⟩)
 refine⟨v,β',rfl,p1,p2,⟨fun r sc hr => ?_,fun r r' b h1 h2 h3 h4=>p3.2 r r' b (hd r h1) (hd r' h2) h3 h4⟩,?_,fun x b hx=>p5 x b (hd x hx)⟩
 ·obtain⟨g1,g2⟩:=hs r sc hr;obtain⟨q1,q2⟩:=p3.1 r sc g1;refine⟨q1.GN g2 Mr,fun b hb=>⟨(q2 b hb).1,fun IQ => ?_⟩⟩;rcases IQ with IQ|IQ
  ·exact(q2 b hb).2 (.inl IQ)
  ·exact IQ.2 r (by unfold bz;rw[hr];rfl) hb
 ·exact Rd.mono p4 Mr (fun _ _ _=>rfl)
abbrev iI(n:Int):Hint := .pv (.int .i64 n)
abbrev iU(n:Nat):Hint := .pv (.int .u64 (n:Int))
abbrev iW(w:UInt32):Hint := .pv (.int .u32 (w.toNat:Int))
abbrev vI(n:Int):PV := .int .i64 n
abbrev vU(n:Nat):PV := .int .u64 (n:Int)
abbrev vW(w:UInt32):PV := .int .u32 (w.toNat:Int)
abbrev vB(b:Bool):PV := .bool b
abbrev eI(n:Int):EV := .pv (.int .i64 n)
abbrev eU(n:Nat):EV := .pv (.int .u64 (n:Int))
abbrev eW(w:UInt32):EV := .pv (.int .u32 (w.toNat:Int))
abbrev eB(b:Bool):EV := .pv (.bool b)
def dr(a b:Nat)(hs:List Hint):TE := .Sb [] (List.range a) (List.range' a b) hs
end Go.Proofs.YtneklnlpgfeplaaGreat.Sym
