/- Lemmas for the statements of this seat. -/
import Derived.Test.YtneklnlpgfeplaaGreatG3
import Derived.Test.YtneklnlpgfeplaaGreatG1
import Derived.Test.YtneklnlpgfeplaaGreatG2
import Derived.Test.YtneklnlpgfeplaaGreatP6
import Derived.Test.YtneklnlpgfeplaaGreatG0
noncomputable section
namespace Go.Proofs.YtneklnlpgfeplaaGreat.Sym
open Go Go.RowKit Path eJ C9
set_option linter.unusedVariables false
set_option maxRecDepth 20000
namespace Mz
abbrev FR:Func:=Tryz.f199
abbrev yH:Func:=Tryz.f277
def atR:List eh:=focus [0,2,0,0,2,0] [.code (aS FR)]
def Q8:List eh→Code
 |.code (.rangeFunc _ _ x _)::_=>x
 |_ => .skip
def N8:List eh→Code
 |.code (.rangeFunc _ _ _ bd)::_=>bd
 |_ => .skip
theorem Q9:atR = .code (.rangeFunc (.tmp 10) #[11,12] (Q8 atR) (N8 atR))::atR.tail:=by kernel_rfl
def uu:List eh:=focus [0,2,0,0,0,0,2,0,2,0,0,0,2,0,2,0,0,0,0,0,2,2,0,0,0] [.code (aS yH)]
theorem Ra:uu = .code (.region 6 (bX uu) false)::uu.tail:=by kernel_rfl
theorem bP(kn us:List Bool)(gs:List aC):ag aV 249 [.ptr 100000 0] (FS kn d0 us gs) (.mD 277 1) ((1,.lit [.ptr 100000 0])::FS kn d0 us gs) :=
 lu Tryz.func249 [] [.q,.q,.ord [1,100000,100001,100002,100003,100004]] True.intro
abbrev σ5:List (Nat×Nat):=[(100000,100000),(100001,100001),(100002,100002),(100003,100003),(100004,100004)]
abbrev σP:List (Nat×Nat):=[(10,100010),(1,100011),(2,100012),(3,100013),(100000,100000),(100001,100001),(100002,100002),(100003,100003),(100004,100004)]
abbrev vQ(c:List EV)(ok:Bool)(kn us:List Bool)(gs:List aC):aY:=(100010,.lit [.ptr 100000 0])::(100011,.lit [.ptr 100000 0])::(100012,.lit c)::(100013,.lit [eB ok])::FS kn d0 us gs
abbrev cZ:List EV:=[eI 0,.pv (.list []),.pv (.list []),eI 0]
abbrev cG:List EV:=[eI 1,.pv (an aj [2,3]),.pv (an aj [1,3,2]),eI 0]
abbrev sP(kn us:List Bool)(gs:List aC):St:=⟨[(1,.ptr 1 0),(2,.ptr 2 0),(3,.ptr 3 0),(10,.mD 277 10)],(10,.lit [.ptr 100000 0])::(1,.lit [.ptr 100000 0])::(2,.lit cZ)::(3,.lit [eB false])::FS kn d0 us gs⟩
theorem Rb(kn us:List Bool)(gs:List aC):mJ [] (py aV ql FR 900 [.code (aS FR)] ⟨jX 0 [.ptr 100000 0],FS kn d0 us gs⟩
  [.q,.h 1 (.df σ5 [(1,10)] (.mD 277 1) ((1,.lit [.ptr 100000 0])::FS kn d0 us gs)),.aW [1,2,3,10],.ord [10,1,2,3,100000,100001,100002,100003,100004]]) =
  some (atR,sP kn us gs,ag aV 249 [.ptr 100000 0] (FS kn d0 us gs) (.mD 277 1) ((1,.lit [.ptr 100000 0])::FS kn d0 us gs)∧True):=by kernel_rfl
abbrev TV:Env:=[(1,.ptr 100011 0),(2,.ptr 100012 0),(3,.ptr 100013 0),(10,.mD 277 100010)]
def M0(sin:aY)(β:Nat→Option Nat)(b:Nat):Prop:=∃x,bz sin x∧β x=some b
structure Pt (sin:aY) (sR:aY) (w0:World) (I0:Nat→Prop) (β0:Nat→Option Nat) (a:Act) (w:World) (β:Nat→Option Nat) (I:Nat→Prop):Prop where
 snap:pA 42 ⟨TV,sR⟩ a w β I
 par:∀r,bz sin r→β r=β0 r
 aW:gV (M0 sin β0) w0 w
 ii:∀b,I b→I0 b∨fresh w0 w b
 Jr:∀r b,bz sR r→β r=some b→b<w0.heap.size→M0 sin β0 b
theorem L8(kn us:List Bool)(gs:List aC)(c:List EV)(ok:Bool):∀q∈vQ c ok kn us gs,q.1<999999:=by intro q hq;have:q.1∈[100010,100011,100012,100013,100000,100001,100002,100003,100004]:=List.mem_map_of_mem (f:=Prod.fst) hq;simp at this;omega
theorem ml{kn us:List Bool}{gs:List aC}{c:List EV}{ok:Bool}{r:Nat}(h:bz (vQ c ok kn us gs) r):r∈[100010,100011,100012,100013,100000,100001,100002,100003,100004]:=xW (L8 kn us gs c ok) h
theorem L9(kn us:List Bool)(gs:List aC):∀q∈FS kn d0 us gs,q.1<999999:=by intro q hq;have:q.1∈[100000,100001,100002,100003,100004]:=List.mem_map_of_mem (f:=Prod.fst) hq;simp at this;omega
theorem r5{kn us:List Bool}{gs:List aC}{r:Nat}(h:bz (FS kn d0 us gs) r):r∈[100000,100001,100002,100003,100004]:=xW (L9 kn us gs) h
theorem start(kn us:List Bool)(gs:List aC)(r:EV)
  (H:∀(w0:World) (I0:Nat→Prop) (β0:Nat→Option Nat) (a:Act) (w:World) (β:Nat→Option Nat) (I:Nat→Prop),mw β0 I0 w0 (FS kn d0 us gs)→Pt (FS kn d0 us gs) (vQ cZ false kn us gs) w0 I0 β0 a w β I →
   (Code.rangeFunc (.tmp 10) #[11,12] (Q8 atR) (N8 atR)).wpIn (Wd none) 0 aV (iZ none aV (bodyPostM (Wd none) 0 aV FR (iP (FS kn d0 us gs) (FS kn d0 us gs) r β0 I0 w0)) atR.tail) a w) :
  ag aV 199 [.ptr 100000 0] (FS kn d0 us gs) r (FS kn d0 us gs):=by
 refine ag.UX Tryz.func199 (by kernel_rfl) fun Γ v0 hs hn hI zm => ?_
 have h42:FR.ntmps=42:=by kernel_rfl
 have Aa:∀r,bz Γ.sin r→Γ.n≤r:=fun r hr=>by rw[hs] at hr;have:=r5 hr;rw[hn,h42];simp at this;omega
 refine qV.go mixed kV Aa hn ⟨bP kn us gs,trivial⟩ (Rb kn us gs) ?_;rw[Q9];intro a w hr h0;obtain⟨β,I,hr⟩:=hr;rw[ia];show(Code.rangeFunc (.tmp 10) #[11,12] (Q8 atR) (N8 atR)).wpIn (Wd none) 0 aV _ a w;rw[hs] at zm;have XC:Γ.n=42:=by rw[hn];kernel_rfl
 have Ib:∀x,bz Γ.sin x→bz (sP kn us gs).aP x:=fun x hx=>by rw[hs] at hx;have:=r5 hx;simp only[List.mem_cons,List.not_mem_nil,or_false] at this;rcases this with rfl|rfl|rfl|rfl|rfl<;>exact rfl
 have zc:∀x,bz Γ.sin x→¬gv x:=fun x hx=>by rw[hs] at hx;have:=r5 hx;unfold gv;simp at this;omega
 have TW:∀x,bz Γ.sin x→β x=Γ.β0 x:=fun x hx=>hr.par x (Ib x hx) hx (zc x hx)
 refine H Γ.w0 Γ.I0 Γ.β0 a w (βX β σP) I zm ⟨?_,fun x hx => ?_,?_,fun b hb => ?_,fun x b hx hb cT => ?_⟩
 ·have:=hr.snap;rw[XC] at this;exact this.pH (σ:=σP) (env:=TV) (by rfl) (by rfl)
 ·rw[←TW x (by rw[hs];exact hx)];have:=r5 hx;simp only[List.mem_cons,List.not_mem_nil,or_false] at this;rcases this with rfl|rfl|rfl|rfl|rfl<;>rfl
 ·have:=hr.aW;unfold Ctx.M at this;rw[hs] at this;exact this
 ·rcases hr.ii b hb with h|h|⟨x,h1,h2,_⟩
  ·exact .inl h
  ·exact .inr h
  ·exact absurd h1 (zc x h2)
 ·have hN:∀y,bz (sP kn us gs).aP y→¬bz (FS kn d0 us gs) y→β y=some b→False:=fun y h1 h2 h3=>by
   rcases hr.new y b h1 (.inl (by rw[hs];exact h2)) h3 with h|⟨x,h4,h5,_⟩
   ·omega
   ·exact zc x h5 h4
  have hF:∀y,bz (FS kn d0 us gs) y→β y=some b→M0 (FS kn d0 us gs) Γ.β0 b:=fun y h1 h2=>⟨y,h1,by rw[←TW y (by rw[hs];exact h1)];exact h2⟩
  have h9:=ml hx;simp only[List.mem_cons,List.not_mem_nil,or_false] at h9;rcases h9 with rfl|rfl|rfl|rfl|rfl|rfl|rfl|rfl|rfl
  ·exact(hN 10 rfl (fun h=>by have:=r5 h;simp at this) hb).elim
  ·exact(hN 1 rfl (fun h=>by have:=r5 h;simp at this) hb).elim
  ·exact(hN 2 rfl (fun h=>by have:=r5 h;simp at this) hb).elim
  ·exact(hN 3 rfl (fun h=>by have:=r5 h;simp at this) hb).elim
  ·exact hF 100000 rfl hb
  ·exact hF 100001 rfl hb
  ·exact hF 100002 rfl hb
  ·exact hF 100003 rfl hb
  ·exact hF 100004 rfl hb
def D9(r:Nat):Prop:=r∈[100010,100011,100012,100013,100000,100001,100002,100003,100004]
theorem D9.bz{r:Nat}(h:D9 r)(kn us:List Bool)(gs:List aC)(c:List EV)(ok:Bool):Sym.bz (vQ c ok kn us gs) r:=by unfold D9 at h;simp only[List.mem_cons,List.not_mem_nil,or_false] at h;rcases h with rfl|rfl|rfl|rfl|rfl|rfl|rfl|rfl|rfl<;>exact rfl
theorem D9.UX{r:Nat}{kn us:List Bool}{gs:List aC}(h:Sym.bz (FS kn d0 us gs) r):D9 r:=by have:=r5 h;unfold D9;simp at this ⊢;omega
theorem leave{kn us:List Bool}{gs:List aC}{c:List EV}{ok:Bool}{p:PV}{w0:World}{I0:Nat→Prop}{β0 β1:Nat→Option Nat}{m:Nat}{a:Act}{w:World}{β:Nat→Option Nat}{I:Nat→Prop}
  (HI:mw β0 I0 w0 (FS kn d0 us gs)) (hF:∀r,bz (FS kn d0 us gs) r→β1 r=β0 r) (hk:Lk w0 I0 (M0 (FS kn d0 us gs) β0) β1 D9 m w β I)
  (hn:pA 42 ⟨[(2,.ptr 100012 0),(3,.ptr 100013 0)],vQ c ok kn us gs⟩ a w β I) (hm:w.heap[m]? = some (.deferred (some []))) (hq:∀r b,D9 r→β1 r=some b→b≠m)
  (mq:(wB ql ⟨[(2,.ptr 100012 0),(3,.ptr 100013 0)],vQ c ok kn us gs⟩ FR.results.toList).bind Cz=some (.pv p)) :
  LeavesInM (Wd none) 0 aV FR a.tmps (iP (FS kn d0 us gs) (FS kn d0 us gs) (.pv p) β0 I0 w0) [{ target := .collected m,args := #[] }] .returning w:=by
 refine⟨by simp,.inl ⟨m,_,rfl,run_takeDeferred hm,?_⟩⟩;have qX:∀r,bz (vQ c ok kn us gs) r→D9 r:=fun r h=>ml h
 have Ou:=hn.put (.deferred none) (fun h=>(hk.nq m h).1 rfl) (fun r hr e=>hq r m (qX r hr) ((hk.par r (qX r hr)).symm.trans e) rfl);have Eo:=hk.put (.deferred none) (.inl rfl);have hr:=Ou.rel (by decide) kh.uy;cases Cs:wB ql ⟨[(2,.ptr 100012 0),(3,.ptr 100013 0)],vQ c ok kn us gs⟩ FR.results.toList with
 |none=>rw[Cs] at mq;cases mq
 |some es =>
  rw[Cs] at mq;obtain⟨v,h1,h2⟩:=mZ (fn:=FR) kV hr Cs mq;generalize w.putObj m (.deferred none)=w9 at *;have XD:∀x,bz (FS kn d0 us gs) x→bz (vQ c ok kn us gs) x:=fun x hx=>(D9.UX hx).bz kn us gs c ok
  have hβ:∀x,bz (FS kn d0 us gs) x→β x=β0 x:=fun x hx=>(Eo.par x (D9.UX hx)).trans (hF x hx)
  have qz:∀x sc,aY.get (FS kn d0 us gs) x=some sc→aY.get (vQ c ok kn us gs) x=some sc∧GN (FS kn d0 us gs) sc=true:=fun x sc hx=>by have Rn:=aY.s8 (L9 kn us gs) hx;simp only[List.mem_cons,List.not_mem_nil,or_false,Prod.mk.injEq] at Rn;rcases Rn with ⟨rfl,rfl⟩|⟨rfl,rfl⟩|⟨rfl,rfl⟩|⟨rfl,rfl⟩|⟨rfl,rfl⟩<;>exact⟨rfl,rfl⟩
  have Oo:∀b,I b→I0 b∨((fresh w0 w9 b∨B3 (FS kn d0 us gs) β0 b)∧∀x,bz (FS kn d0 us gs) x→β x≠some b):=fun b hb=>by
   rcases Eo.ii b hb with h|h
   ·exact .inl h
   ·refine .inr ⟨.inl h,fun x hx e => ?_⟩;obtain⟨sc,gS⟩:=abP.1 (XD x hx);exact((Ou.aP.1 x sc gS).2 b e).2 hb
  refine⟨v,h1,v,β,rfl,fun x hx _=>hβ x hx,Eo.aW,⟨fun x sc hx => ?_,fun x y b hx hy=>Ou.aP.2 x y b (XD x hx) (XD y hy)⟩,Rd.mono h2 Oo (fun _ _ _=>rfl),fun x b hx J1=>absurd hx J1⟩;obtain⟨g1,g2⟩:=qz x sc hx;obtain⟨q1,q2⟩:=Ou.aP.1 x sc g1;refine⟨q1.GN g2 Oo,fun b hb=>⟨(q2 b hb).1,fun h => ?_⟩⟩;rcases h with h|h
  ·obtain⟨sH,KJ⟩:∃sH,aY.get (FS kn d0 us gs) x=some sH:=⟨sc,hx⟩;exact((HI.1 x sH KJ).2 b ((hβ x (by unfold bz;rw[hx];rfl)).symm.trans hb)).2 h
  ·exact h.2 x (by unfold bz;rw[hx];rfl) hb
def lr(fn:FuncId)(tmps:Array Value)(m:Nat)(st:LoopState)(pe:Option Code):Loop := { state:=st,pending:=pe,fn,tmps,params := #[11,12],assign:=Q8 atR,body:=N8 atR,defers:=m }
theorem Zc {kn us : List Bool} {gs : List aC} {w0 : World} {I0 : Nat → Prop} {β0 : Nat → Option Nat} {a : Act} {w : World} {β : Nat → Option Nat} {I : Nat → Prop}
    (hp : Pt (FS kn d0 us gs) (vQ cZ false kn us gs) w0 I0 β0 a w β I) {Q : Exit → Act → World → Prop}
    (H : ∀ (fn : FuncId) (a1 : Act) (W1 : World), Lk w0 I0 (M0 (FS kn d0 us gs) β0) β D9 w.heap.size W1 β I → W1.heap[w.heap.size]? = some (.deferred (some [])) → W1.heap[w.heap.size + 1]? = some (.loop (lr fn a.tmps w.heap.size .ready none)) →
      pA 42 ⟨[(1, .ptr 100010 0)], vQ cZ false kn us gs⟩ a1 W1 β I → a1.tmps.getD 0 undef = .func (.yield (w.heap.size + 1)) #[] #[] →
      (aS yH).wpIn (Wd none) 0 aV (bodyPost aV yH (rangePost (Wd none) 0 aV (w.heap.size + 1) Q { a with defers := [{ target := .collected w.heap.size, args := #[] }] })) a1 W1) :
    (Code.rangeFunc (.tmp 10) #[11, 12] (Q8 atR) (N8 atR)).wpIn (Wd none) 0 aV Q a w := by
  refine wpIn_rangeFunc ?_;intro fn hfn;have hg : a.eval (.tmp 10) = .func (.func 277) #[] #[.pointer (some ⟨(β 100010).getD 0, 0, none⟩)] ∧ ∃ b, β 100010 = some b := by obtain ⟨_, b, hb, hv⟩ := hp.snap.env 10 (.mD 277 100010) rfl;exact ⟨by rw [hb]; exact hv, b, hb⟩
  obtain ⟨hg, RL, TX⟩ := hg;rw [TX, aec] at hg;obtain ⟨W1, RM⟩ : ∃ W1, (w.alloc (.deferred (some []))).alloc (.loop (lr fn a.tmps w.heap.size .ready none)) = W1 := ⟨_, rfl⟩;have hL1 : W1.heap[w.heap.size + 1]? = some (.loop (lr fn a.tmps w.heap.size .ready none)) := by rw [← RM]; have := World.alloc_heap_new (w.alloc (.deferred (some []))) (.loop (lr fn a.tmps w.heap.size .ready none)); rwa [afb] at this
  have hK1 : W1.heap[w.heap.size]? = some (.deferred (some [])) := by rw [← RM]; exact (Below.heap_alloc _ _ _ (by simp)).trans (World.alloc_heap_new w _)
  have VA : W1.heap.size = w.heap.size + 2 := by rw [← RM]; simp
  have BV := ((hp.snap.grow (.deferred (some []))).grow (.loop (lr fn a.tmps w.heap.size .ready none)));rw [RM] at BV;have Zd : aV.funcs[277]? = some yH := Tryz.func277;have gk : AJ yH 2 [] = true := by kernel_rfl
  unfold AJ at gk;simp only [Bool.and_eq_true, Bool.not_eq_true'] at gk;have Ze := tj gk.1.1.1.1;have hz : yH.ntmps = 42 := by kernel_rfl
  have LW : yK w.heap.size w W1 := by rw [← RM];exact ((yK.refl _ _).alloc (abW _) _).alloc (by simp) _
  have hk : Lk w0 I0 (M0 (FS kn d0 us gs) β0) β D9 w.heap.size W1 β I := by refine ⟨fun r _ => rfl, hp.aW.trans (gV.wb (M := fun _ => False) LW) (fun _ _ h => h.elim), fun b hb => (hp.ii b hb).imp id (fun h => ⟨h.1, by rw [VA]; have := h.2; omega⟩), fun b hb => ?_, hp.aW.size, by omega⟩;have := hp.snap.ib b hb;exact ⟨by omega, by omega⟩
  refine ⟨w.heap.size + 1, [{ target := .collected w.heap.size, args := #[] }], W1, { target := .fn (.func 277) #[.pointer (some ⟨RL, 0, none⟩)], args := #[.func (.yield (w.heap.size + 1)) #[] #[]] }, W1, 277,
    #[.func (.yield (w.heap.size + 1)) #[] #[]] ++ #[.pointer (some ⟨RL, 0, none⟩)], W1, ?_, ?_, fun _ _ => trivial, ?_, ⟨fun h => (by rw [ni] at h; cases h), ?_⟩⟩
  · rw [← RM]; exact run_enterLoop_outer _ _ _ _ _
  · simp only [resolve, hg];simp [go_sem]
  · have hb : yH.body ≠ none := by rw [Ze]; simp
    have h3 : yH.name ≠ "runtime.NumGoroutine" := by simpa using gk.1.1.1.2
    simp [invoke, callFunc, Zd, h3, hb]
  · refine callsIn_of_wp Zd Ze trivial ?_ rfl;have hd : a.defers = [] := hp.snap.defers;obtain ⟨a1, TY⟩ : ∃ a1 : Act, a1 = { tmps := (#[.func (.yield (w.heap.size + 1)) #[] #[]] ++ #[.pointer (some ⟨RL, 0, none⟩)]) ++ Array.replicate (yH.ntmps - (#[Value.func (.yield (w.heap.size + 1)) #[] #[]] ++ #[Value.pointer (some ⟨RL, 0, none⟩)]).size) undef, defers := [] } := ⟨_, rfl⟩;rw [← TY, hd];have e0 : a1.tmps.getD 0 undef = .func (.yield (w.heap.size + 1)) #[] #[] := by rw [TY]; simp
    have e1 : a1.tmps.getD 1 undef = .pointer (some ⟨RL, 0, none⟩) := by rw [TY]; simp
    have e2 : a1.tmps.size = 42 := by rw [TY, hz]; simp
    have e3 : a1.defers = [] := by rw [TY]
    refine H fn a1 W1 hk hK1 hL1 (BV.act (fun t e he => ?_) e2 e3) e0;simp only [Env.get] at he;cases hb : Nat.beq 1 t with
    | false => rw [hb] at he; cases he
    | true =>
      have : 1 = t := abO hb;subst this;rw [hb, abQ] at he;injection he with he
      subst he;exact ⟨rfl, RL, TX, e1⟩
abbrev OL:Prop:=((lk.ai.map aK.cells).length:Int)=4
abbrev OA(i j:Int):Prop:=cu true .add (.int .i64 i) (.int .i64 1)=some (.int .i64 j)
abbrev OF(i:Int)(F:aY):Prop:=ag aV 252 [.ptr 100000 0,eI i] F (.pv (vB false)) F
abbrev OG:Prop:=false = !true
abbrev OH:Prop:=false=false
theorem Ma:OF 0 (FS k1 d0 u1 [dU]):=free k1 u1 [dU] 0 true false rfl rfl
theorem OX:OF 1 (FS k1 d0 u1 [dU]):=free k1 u1 [dU] 1 true true rfl rfl
theorem Mb:OF 0 (FS k2 d0 k2 [dU,eL]):=free k2 k2 [dU,eL] 0 true false rfl rfl
theorem OY:OF 1 (FS k2 d0 k2 [dU,eL]):=free k2 k2 [dU,eL] 1 true true rfl rfl
theorem TZ:OF 2 (FS k2 d0 k2 [dU,eL]):=free k2 k2 [dU,eL] 2 true false rfl rfl
abbrev XE:List TE:=[.h 5 (iI 4),.a,.q,.a,.q,.h 1 (iI 1),.a,.h 6 (iI 4),.a,.bx [.o,.o,(.df σ5 [] (.pv (vB false)) (FS k1 d0 u1 [dU])),.o,.skip,.skip,.skip,(.dec false),.o,.skip,.skip,.skip,.skip,.skip,(.dec false)],.a,.h 1 (iI 2),.a,.h 6 (iI 4),.a,.bx [.o,.o,(.df σ5 [] (.pv (vB false)) (FS k1 d0 u1 [dU])),.o,.skip,.skip,.skip,(.dec false),.o,.skip,.skip,.skip,.skip,.skip,(.dec false)],.a,.h 1 (iI 3),.a,.h 6 (iI 4),.a,.bx [.o,.o,(.df σ5 [] (.pv (vB false)) (FS k1 d0 u1 [dU])),.o,.skip,.skip,.skip,(.dec false),.o,.skip,.skip,.skip,.skip,.skip,(.dec false)],.a,.h 1 (iI 4),.a,.h 6 (iI 4),.a,.h 0 (iI 1),.a,.q,.a,.q,.h 1 (iI 2),.a,.h 6 (iI 4),.a,.bx [.o,.o,(.df σ5 [] (.pv (vB false)) (FS k1 d0 u1 [dU])),.o,.skip,.skip,.skip,(.dec false),.o,.skip,.skip,.skip,.skip,.skip,(.dec false)],.a,.h 1 (iI 3),.a,.h 6 (iI 4),.a,.bx [.o,.o,(.df σ5 [] (.pv (vB false)) (FS k1 d0 u1 [dU])),.o,.skip,.skip,.skip,(.dec false),.o,.skip,.skip,.skip,.skip,.skip,(.dec false)],.a,.h 1 (iI 4),.a,.h 6 (iI 4),.a,.h 0 (iI 2),.a,.q,.a,.q,.h 1 (iI 3),.a,.h 6 (iI 4),.a,.aW [1,3,4]]
abbrev T0:Prop:=OL∧OA 0 1∧OL∧OF 0 (FS k1 d0 u1 [dU])∧OG∧OG∧OG∧OH∧OG∧OG∧OG∧OG∧OG∧OH∧OA 1 2∧OL∧OF 0 (FS k1 d0 u1 [dU])∧OG∧OG∧OG∧OH∧OG∧OG∧OG∧OG∧OG∧OH∧OA 2 3∧OL∧OF 0 (FS k1 d0 u1 [dU])∧OG∧OG∧OG∧OH∧OG∧OG∧OG∧OG∧OG∧OH∧OA 3 4∧OL∧OA 0 1∧OA 1 2∧OL∧OF 1 (FS k1 d0 u1 [dU])∧OG∧OG∧OG∧OH∧OG∧OG∧OG∧OG∧OG∧OH∧OA 2 3∧OL∧OF 1 (FS k1 d0 u1 [dU])∧OG∧OG∧OG∧OH∧OG∧OG∧OG∧OG∧OG∧OH∧OA 3 4∧OL∧OA 1 2∧OA 2 3∧OL∧True
theorem XF:T0:=⟨rfl,rfl,rfl,Ma,rfl,rfl,rfl,rfl,rfl,rfl,rfl,rfl,rfl,rfl,rfl,rfl,Ma,rfl,rfl,rfl,rfl,rfl,rfl,rfl,rfl,rfl,rfl,rfl,rfl,Ma,rfl,rfl,rfl,rfl,rfl,rfl,rfl,rfl,rfl,rfl,rfl,rfl,rfl,rfl,rfl,OX,rfl,rfl,rfl,rfl,rfl,rfl,rfl,rfl,rfl,rfl,rfl,rfl,OX,rfl,rfl,rfl,rfl,rfl,rfl,rfl,rfl,rfl,rfl,rfl,rfl,rfl,rfl,rfl,trivial⟩
theorem T2:mJ [] (py aV ql yH 900 [.code (aS yH)] ⟨[(1,.ptr 100010 0)],vQ cZ false k1 u1 [dU]⟩ XE)=some (uu,⟨[(1,.ptr 100010 0),(3,eI 2),(4,eI 3)],vQ cZ false k1 u1 [dU]⟩,T0):=by kernel_rfl
abbrev XG:List TE:=[.h 5 (iI 4),.a,.q,.a,.q,.h 1 (iI 1),.a,.h 6 (iI 4),.a,.bx [.o,.o,(.df σ5 [] (.pv (vB false)) (FS k2 d0 k2 [dU,eL])),.o,.skip,.skip,.skip,(.dec false),.o,.skip,.skip,.skip,.skip,.skip,(.dec false)],.a,.h 1 (iI 2),.a,.h 6 (iI 4),.a,.bx [.o,.o,(.df σ5 [] (.pv (vB false)) (FS k2 d0 k2 [dU,eL])),.o,.skip,.skip,.skip,(.dec false),.o,.skip,.skip,.skip,.skip,.skip,(.dec false)],.a,.h 1 (iI 3),.a,.h 6 (iI 4),.a,.bx [.o,.o,(.df σ5 [] (.pv (vB false)) (FS k2 d0 k2 [dU,eL])),.o,.skip,.skip,.skip,(.dec false),.o,.skip,.skip,.skip,.skip,.skip,(.dec false)],.a,.h 1 (iI 4),.a,.h 6 (iI 4),.a,.h 0 (iI 1),.a,.q,.a,.q,.h 1 (iI 2),.a,.h 6 (iI 4),.a,.bx [.o,.o,(.df σ5 [] (.pv (vB false)) (FS k2 d0 k2 [dU,eL])),.o,.skip,.skip,.skip,(.dec false),.o,.skip,.skip,.skip,.skip,.skip,(.dec false)],.a,.h 1 (iI 3),.a,.h 6 (iI 4),.a,.bx [.o,.o,(.df σ5 [] (.pv (vB false)) (FS k2 d0 k2 [dU,eL])),.o,.skip,.skip,.skip,(.dec false),.o,.skip,.skip,.skip,.skip,.skip,(.dec false)],.a,.h 1 (iI 4),.a,.h 6 (iI 4),.a,.h 0 (iI 2),.a,.q,.a,.q,.h 1 (iI 3),.a,.h 6 (iI 4),.a,.bx [.o,.o,(.df σ5 [] (.pv (vB false)) (FS k2 d0 k2 [dU,eL])),.o,.skip,.skip,.skip,(.dec false),.o,.skip,.skip,.skip,.skip,.skip,(.dec false)],.a,.h 1 (iI 4),.a,.h 6 (iI 4),.a,.h 0 (iI 3),.a,.q,.a,.q,.h 1 (iI 4),.a,.h 6 (iI 4),.a,.h 0 (iI 4),.a,.q,.a,.aW []]
abbrev T3:Prop:=OL∧OA 0 1∧OL∧OF 0 (FS k2 d0 k2 [dU,eL])∧OG∧OG∧OG∧OH∧OG∧OG∧OG∧OG∧OG∧OH∧OA 1 2∧OL∧OF 0 (FS k2 d0 k2 [dU,eL])∧OG∧OG∧OG∧OH∧OG∧OG∧OG∧OG∧OG∧OH∧OA 2 3∧OL∧OF 0 (FS k2 d0 k2 [dU,eL])∧OG∧OG∧OG∧OH∧OG∧OG∧OG∧OG∧OG∧OH∧OA 3 4∧OL∧OA 0 1∧OA 1 2∧OL∧OF 1 (FS k2 d0 k2 [dU,eL])∧OG∧OG∧OG∧OH∧OG∧OG∧OG∧OG∧OG∧OH∧OA 2 3∧OL∧OF 1 (FS k2 d0 k2 [dU,eL])∧OG∧OG∧OG∧OH∧OG∧OG∧OG∧OG∧OG∧OH∧OA 3 4∧OL∧OA 1 2∧OA 2 3∧OL∧OF 2 (FS k2 d0 k2 [dU,eL])∧OG∧OG∧OG∧OH∧OG∧OG∧OG∧OG∧OG∧OH∧OA 3 4∧OL∧OA 2 3∧OA 3 4∧OL∧OA 3 4∧True
theorem XH:T3:=⟨rfl,rfl,rfl,Mb,rfl,rfl,rfl,rfl,rfl,rfl,rfl,rfl,rfl,rfl,rfl,rfl,Mb,rfl,rfl,rfl,rfl,rfl,rfl,rfl,rfl,rfl,rfl,rfl,rfl,Mb,rfl,rfl,rfl,rfl,rfl,rfl,rfl,rfl,rfl,rfl,rfl,rfl,rfl,rfl,rfl,OY,rfl,rfl,rfl,rfl,rfl,rfl,rfl,rfl,rfl,rfl,rfl,rfl,OY,rfl,rfl,rfl,rfl,rfl,rfl,rfl,rfl,rfl,rfl,rfl,rfl,rfl,rfl,rfl,TZ,rfl,rfl,rfl,rfl,rfl,rfl,rfl,rfl,rfl,rfl,rfl,rfl,rfl,rfl,rfl,rfl,trivial⟩
theorem T4:mJ [] (py aV ql yH 900 [.code (aS yH)] ⟨[(1,.ptr 100010 0)],vQ cZ false k2 k2 [dU,eL]⟩ XG)=some ([],⟨[],vQ cZ false k2 k2 [dU,eL]⟩,T3):=by kernel_rfl
theorem OZ{kn us:List Bool}{gs:List aC}{c:List EV}{ok:Bool} : ∀r,bz (vQ c ok kn us gs) r→42≤r:=fun r h=>by have:=ml h;simp at this;omega
theorem Rc{kn us:List Bool}{gs:List aC}{c:List EV}{ok:Bool} : ∀r,bz (vQ c ok kn us gs) r→¬gv r:=fun r h=>by have:=ml h;unfold gv;simp at this;omega
theorem vN{β β':Nat→Option Nat}{L:Nat→Prop}{I I':Nat→Prop}{w w':World}{r:Nat}{sR:aY}{v:Value}(h:RE β L I w (.ptr r 0) v)(hd:bz sR r)(hb:β' r=β r):RE β' (bz sR) I' w' (.ptr r 0) v:=by obtain⟨_,b,h1,h2⟩:=h;exact⟨hd,b,hb.trans h1,h2⟩
theorem XI(kn us:List Bool)(gs:List aC):FQ [] (py aV ql FR 900 atR.tail ⟨[(2,.ptr 100012 0),(3,.ptr 100013 0)],vQ cZ false kn us gs⟩ [.q,.aW [2,3]])=some (⟨[(2,.ptr 100012 0),(3,.ptr 100013 0)],vQ cZ false kn us gs⟩,True):=by kernel_rfl
theorem T5:ag aV 199 [.ptr 100000 0] (FS k2 d0 k2 [dU,eL]) (.pv (.bg [gN.pv,vB false])) (FS k2 d0 k2 [dU,eL]):=by
 refine start k2 k2 [dU,eL] _ fun w0 I0 β0 a w β I HI hp => ?_
 refine Zc hp fun fn a1 W1 hk hK hL hn h0 => ?_
 have cT:∀r b,D9 r→β r=some b→b<w.heap.size:=fun r b hr hb=>by obtain⟨sc,gS⟩:=abP.1 (hr.bz k2 k2 [dU,eL] cZ false);exact((hp.snap.aP.1 r sc gS).2 b hb).1
 have hM:∀(β':Nat→Option Nat),(∀r,D9 r→β' r=β r)→∀r b,bz (vQ cZ false k2 k2 [dU,eL]) r→β' r=some b→(b<w0.heap.size→M0 (FS k2 d0 k2 [dU,eL]) β0 b)∧b≠w.heap.size∧b≠w.heap.size+1:=fun β' he r b hr hb=>by rw[he r (ml hr)] at hb;have:=cT r b (ml hr) hb;exact⟨hp.Jr r b hr hb,by omega,by omega⟩
 have hD:∀r,D9 r→bz (vQ cZ false k2 k2 [dU,eL]) r∧bz (vQ cZ false k2 k2 [dU,eL]) r:=fun r hr=>⟨hr.bz _ _ _ _ _,hr.bz _ _ _ _ _⟩
 have zM:=hn.rel (by decide) kh.uy;have key:qV none aV ⟨W1,I,vQ cZ false k2 k2 [dU,eL],β,42,by decide,kh.uy⟩ (a1.tmps.getD 0 undef) [] (bodyPost aV yH (rangePost (Wd none) 0 aV (w.heap.size+1) (iZ none aV (bodyPostM (Wd none) 0 aV FR (iP (FS k2 d0 k2 [dU,eL]) (FS k2 d0 k2 [dU,eL]) (.pv (.bg [gN.pv,vB false])) β0 I0 w0)) atR.tail) { a with defers:=[{ target := .collected w.heap.size,args := #[] }] })) [.code (aS yH)] ⟨[(1,.ptr 100010 0)],vQ cZ false k2 k2 [dU,eL]⟩:=by
  refine qV.go mixed kV OZ (by kernel_rfl) XH T4 ?_;intro a2 W2 FX _;obtain⟨β2,I2,FX⟩:=FX;rw[ia];obtain⟨Rp,hK2,Vl⟩:=hk.step FX rfl rfl rfl hD Rc (hM β (fun _ _=>rfl));obtain⟨v,hv,_⟩:=mZ (fn:=yH) (es:=[]) (e := .pv (.bg [])) kV FX (by rfl) (by rfl);refine⟨FX.defers,v,hv,none,_,run_endLoop (Vl.trans hL) (by simp[lr]),?_⟩;have Jw:∀r,bz (vQ cZ false k2 k2 [dU,eL]) r→β2 r≠some (w.heap.size+1):=fun r hr e=>(hM β2 Rp.par r _ hr e).2.2 rfl
  have S7:=(FX.snap.put (.loop { lr fn a.tmps w.heap.size .ready none with state := .exhausted }) (fun h=>(Rp.nq _ h).2 rfl) Jw);have Mc:=Rp.put (.loop { lr fn a.tmps w.heap.size .ready none with state := .exhausted }) (.inr rfl);have UY:(W2.putObj (w.heap.size+1) (.loop { lr fn a.tmps w.heap.size .ready none with state := .exhausted })).heap[w.heap.size]? = some (.deferred (some [])):=(mj (by omega)).trans (hK2.trans hK);generalize W2.putObj (w.heap.size+1) (.loop { lr fn a.tmps w.heap.size .ready none with state := .exhausted })=W3 at S7 Mc UY ⊢;have XJ:pA 42 ⟨[(2,.ptr 100012 0),(3,.ptr 100013 0)],vQ cZ false k2 k2 [dU,eL]⟩ a W3 β2 I2:=by
   refine S7.act (fun t e he => ?_) hp.snap.size hp.snap.defers;simp only[Env.get] at he;cases hb:Nat.beq 2 t with
   |true =>
    have:2=t:=abO hb;subst this;rw[hb,abQ] at he;injection he with he;subst he
    exact vN (hp.snap.env 2 (.ptr 100012 0) rfl) rfl (Mc.par 100012 (by simp[D9]))
   |false =>
    rw[hb,ac1] at he;cases hb:Nat.beq 3 t with
    |true =>
     have:3=t:=abO hb;subst this;rw[hb,abQ] at he;injection he with he;subst he
     exact vN (hp.snap.env 3 (.ptr 100013 0) rfl) rfl (Mc.par 100013 (by simp[D9]))
    |false=>rw[hb] at he;cases he
  have Md:=XJ.rel (by decide) kh.uy;have XK:qV none aV ⟨W3,I2,vQ cZ false k2 k2 [dU,eL],β2,42,by decide,kh.uy⟩ (a.tmps.getD 0 undef) [{ target := .collected w.heap.size,args := #[] }] (bodyPostM (Wd none) 0 aV FR (iP (FS k2 d0 k2 [dU,eL]) (FS k2 d0 k2 [dU,eL]) (.pv (.bg [gN.pv,vB false])) β0 I0 w0)) atR.tail ⟨[(2,.ptr 100012 0),(3,.ptr 100013 0)],vQ cZ false k2 k2 [dU,eL]⟩:=by
   refine qV.done mixed kV OZ (by kernel_rfl) trivial (XI k2 k2 [dU,eL]) ?_;intro a4 W4 T6 _;obtain⟨β4,I4,T6⟩:=T6;obtain⟨hk4,hK4,_⟩:=Mc.step T6 rfl rfl rfl hD Rc (hM β2 Rp.par);have hd4:(lift [{ target := .collected w.heap.size,args := #[] }] a4).defers=[{ target := .collected w.heap.size,args := #[] }]:=by unfold lift;rw[T6.defers];rfl
   show LeavesInM (Wd none) 0 aV FR a4.tmps _ (lift _ a4).defers .returning W4;rw[hd4];exact leave HI hp.par hk4 T6.snap (hK4.trans UY) (fun r b hr hb=>by have:=cT r b hr hb;omega) (by kernel_rfl)
  have:=XK a W3 ⟨β2,I2,Md⟩ rfl;have Mp:lift [{ target := .collected w.heap.size,args := #[] }] a = { a with defers:=[{ target := .collected w.heap.size,args := #[] }] } := by unfold lift;rw[hp.snap.defers];rfl
  rw[Mp] at this;exact this
 have:=key a1 W1 ⟨β,I,zM⟩ rfl;rw[ia] at this;exact this
abbrev F1:aY:=FS k1 d0 u1 [dU]
abbrev xh(c:List EV)(ok:Bool):aY:=vQ c ok k1 u1 [dU]
abbrev Re:Env:=[(1,.ptr 100011 0),(2,.ptr 100012 0),(3,.ptr 100013 0),(11,eI 2),(12,eI 3)]
abbrev σB:List (Nat×Nat):=[(5,100005),(100010,100010),(100011,100011),(100012,100012),(100013,100013),(100000,100000),(100001,100001),(100002,100002),(100003,100003),(100004,100004)]
abbrev RN(c:List EV)(ok:Bool):aY:=(100005,.lit [eI 3])::xh c ok
abbrev sA:St:=⟨[(1,.ptr 100011 0),(2,.ptr 100012 0),(3,.ptr 100013 0),(4,eI 2),(5,.ptr 5 0)],(5,.lit [eI 3])::xh cZ false⟩
abbrev sB:St:=⟨[(1,.ptr 100011 0),(2,.ptr 100012 0),(3,.ptr 100013 0),(4,eI 2),(5,.ptr 100005 0)],RN cZ false⟩
abbrev sE(c:List EV)(ok:Bool):St:=⟨[(2,.ptr 100012 0),(3,.ptr 100013 0)],xh c ok⟩
theorem XL:mJ [] (py aV ql FR 900 [.code (Q8 atR)] ⟨Re,xh cZ false⟩ [.q,.q,.aW [1,2,3,4,5],.ord [5,100010,100011,100012,100013,100000,100001,100002,100003,100004]])=some ([],sA,True):=by kernel_rfl
def O0:List eh:=focus [0,0] [.code (N8 atR)]
abbrev XM:List Hint:=[.none,.none,.df σ5 [] (.pv (vI 1)) F1,.none,.none,.df σ5 [] (.pv (vI 3)) F1]
theorem XN:Cd aV ql 42 (bX O0) (sC (bX O0) [1]) (uO (bX O0) [1]) XM (Fa ql 42 (bX O0) [1] sB):=by unfold Cd;kernel_rfl
abbrev RO(x:Int):Prop:=decide (x≥0)=true
abbrev OT:Prop:=true=true
abbrev Zf:Prop:=ag aV 248 [(.ptr 100000 0),eI 0,eI 2] F1 (.pv (vI 1)) F1∧ag aV 248 [(.ptr 100000 0),eI 0,eI 3] F1 (.pv (vI 3)) F1 ∧
 Cd aV ql 42 (bX O0) (sC (bX O0) [1]) (uO (bX O0) [1]) XM (Fa ql 42 (bX O0) [1] sB) ∧
 ag aV 250 [(.ptr 100000 0),eI 0,eI 2,(.mD 251 100009)] (F1++[(100009,(.lit [eI 3]))]) (.pv (vI 2)) (F1++[(100009,(.lit [eI 3]))]) ∧
 RO 1∧RO 1∧RO 1∧RO 3∧RO 3∧RO 3 ∧
 ((([2,3]:List Int).map aj).flatten=(([2,3]:List Int).map aj).flatten∧(([2,3]:List Int).map aj).length=(([2,3]:List Int).map aj).length∧∀row∈([2,3]:List Int).map aj,row.length=1) ∧
 ((([1,3,2]:List Int).map aj).flatten=(([1,3,2]:List Int).map aj).flatten∧(([1,3,2]:List Int).map aj).length=(([1,3,2]:List Int).map aj).length∧∀row∈([1,3,2]:List Int).map aj,row.length=1)∧True
theorem okB:Zf :=
 ⟨by have:=BM k1 d0 u1 [dU] rfl 2;rwa[show RI (pK k1 2)=1 from by decide +kernel] at this,by have:=BM k1 d0 u1 [dU] rfl 3;rwa[show RI (pK k1 3)=3 from by decide +kernel] at this,XN,
  by have:=QZ k1 d0 u1 [dU] 3 2;rw[show RI (pP 3 2)=2 from by decide +kernel] at this;exact this.Q7,rfl,rfl,rfl,rfl,rfl,rfl,gA qk _,gA qk _,trivial⟩
theorem XO:FQ [1,1,1,1,1,1,1,1,1,1,3,3] (py aV ql FR 900 [.code (N8 atR)] sB [.any [1] XM,.h 3 (.df (σ5++[(100005,100009)]) [] (.pv (vI 2)) (F1++[(100009,(.lit [eI 3]))])),
  .bx [.o,.o,.o,.o,.o,.dec true,.o,.o,.o,.dec true],.a,.bx [.o,.o,(.fM 0 0 (([2,3]:List Int).map aj)),.o,.o,.o,(.fM 0 0 (([1,3,2]:List Int).map aj))],.drop [100005],.aW [2,3]]) =
  some (sE cG true,Zf):=by kernel_rfl
theorem T7:ag aV 252 [.ptr 100000 0,eI 2] F1 (.pv (vB true)) F1:=free k1 u1 [dU] 2 false false rfl rfl
theorem T8:ag aV 252 [.ptr 100000 0,eI 3] F1 (.pv (vB true)) F1:=free k1 u1 [dU] 3 false false rfl rfl
theorem XP:N7 [34,3,4] [] (oI aV ql 42 (bX uu) ((bX uu).toList.take 9) [.o,.o,.df σ5 [] (.pv (vB true)) F1,.o,.o,.o,.df σ5 [] (.pv (vB true)) F1,.dec true,.o] ⟨[(1,.ptr 100010 0),(3,eI 2),(4,eI 3)],xh cZ false⟩) =
  some (⟨[(34,eB true),(3,eI 2),(4,eI 3)],xh cZ false⟩,ag aV 252 [.ptr 100000 0,eI 2] F1 (.pv (vB true)) F1∧OT∧OT∧OT∧ag aV 252 [.ptr 100000 0,eI 3] F1 (.pv (vB true)) F1∧OT∧True):=by kernel_rfl
theorem T9:N7 [40] [] (oI aV ql 42 (bX uu) ((bX uu).toList.drop 13) [.o,.dec true] ⟨[(34,eB true),(38,eB false)],xh cG true⟩)=some (⟨[(40,eB true)],xh cG true⟩,OT∧OT∧True):=by kernel_rfl
theorem XQ:FQ [] (py aV ql yH 900 uu.tail ⟨[(40,eB true)],xh cG true⟩ [.a])=some (⟨[(40,eB true)],xh cG true⟩,True):=by kernel_rfl
theorem op9:(bX uu)[9]?.map (fun o=>(o.op,o.dst,o.guard))=some (.move (.tmp 0),some 35,some (8,true)):=by kernel_rfl
theorem XS:(bX uu)[10]?.map (fun o=>(o.op,o.dst,o.guard))=some (.move (.tmp 3),some 36,some (8,true)):=by kernel_rfl
theorem XT:(bX uu)[11]?.map (fun o=>(o.op,o.dst,o.guard))=some (.move (.tmp 4),some 37,some (8,true)):=by kernel_rfl
theorem XU:(bX uu)[12]?.map (fun o=>(o.op,o.dst,o.guard))=some (.call ⟨.value (.tmp 35),#[.tmp 36,.tmp 37],#[3,3]⟩,some 38,some (8,true)):=by kernel_rfl
theorem XV:((bX uu)[8]?).bind (·.dst)=some 34:=by kernel_rfl
theorem Me:(bX uu).size=15:=by kernel_rfl
theorem O1:(bX uu).all BO=true:=by kernel_rfl
theorem Iy{x:Option Oper}{p:Op}{d:Option Tmp}{g:Option (Nat×Bool)}(h:x.map (fun o=>(o.op,o.dst,o.guard))=some (p,d,g)):∃o,x=some o∧o.op=p∧o.dst=d∧o.guard=g:=by
 cases x with
 |none=>cases h
 |some o=>injection h with h;injection h with h1 h2;injection h2 with h2 h3;exact⟨o,rfl,h1,h2,h3⟩
theorem zJ{o:Oper}{t:Array Value}(hg:o.guard=some (8,true))(h:t[34]? = some (.bool true)):Region.wanted o (yielded (bX uu) t)=true:=by
 have:yielded (bX uu) t 8=some true:=by unfold yielded;rw[XV,ada,h]
 simp[Region.wanted,hg,this]
abbrev QP(β0:Nat→Option Nat)(I0:Nat→Prop)(w0:World):Exit→Act→World→Prop:=iZ none aV (bodyPostM (Wd none) 0 aV FR (iP F1 F1 (.pv (.bg [eL.pv,vB true])) β0 I0 w0)) atR.tail
abbrev RP(β0:Nat→Option Nat)(I0:Nat→Prop)(w0:World)(a:Act)(m:Nat):Ending→World→Prop:=rangePost (Wd none) 0 aV (m+1) (QP β0 I0 w0) { a with defers:=[{ target := .collected m,args := #[] }] }
theorem HJ{β:Nat→Option Nat}{sR:aY}{I:Nat→Prop}{w:World}{a:Act}{env:Env}(h:∀p∈env,RE β (bz sR) I w p.2 (a.tmps.getD p.1 undef)):∀t e,env.get t=some e→RE β (bz sR) I w e (a.tmps.getD t undef):=by
 induction env with
 |nil=>intro t e he;cases he
 |cons p env ih =>
  obtain⟨t0,e0⟩:=p;intro t e he;simp only[Env.get] at he;cases hb:Nat.beq t0 t with
  |true =>
   have:t0=t:=abO hb;subst this;rw[hb,abQ] at he;injection he with he;subst he
   exact h (t0,e0) (acO ..)
  |false=>rw[hb,ac1] at he;exact ih (fun p hp=>h p (acA _ hp)) t e he
theorem after{w0:World}{I0:Nat→Prop}{β0 β:Nat→Option Nat}{I:Nat→Prop}{a:Act}{w:World}(HI:mw β0 I0 w0 F1)(hp:Pt F1 (xh cZ false) w0 I0 β0 a w β I){W6:World}{β5:Nat→Option Nat}{I5:Nat→Prop}{a6:Act}{fn:FuncId}
  (Zg:Lk w0 I0 (M0 F1 β0) β D9 w.heap.size W6 β5 I5) (hK6:W6.heap[w.heap.size]? = some (.deferred (some []))) (hL6:W6.heap[w.heap.size+1]? = some (.loop (lr fn a.tmps w.heap.size .done (some .ret))))
  (hn6:pA 42 ⟨[(34,eB true),(38,eB false)],xh cG true⟩ a6 W6 β5 I5) :
  wpOpsIn (Wd none) 0 aV (bX uu) (iZ none aV (bodyPost aV yH (RP β0 I0 w0 a w.heap.size)) uu.tail) [13,14] a6 W6:=by
 have cT:∀r b,D9 r→β r=some b→b<w.heap.size:=fun r b hr hb=>by obtain⟨sc,gS⟩:=abP.1 (hr.bz k1 u1 [dU] cZ false);exact((hp.snap.aP.1 r sc gS).2 b hb).1
 have hM:∀(β':Nat→Option Nat),(∀r,D9 r→β' r=β r)→∀r b,bz (xh cG true) r→β' r=some b→(b<w0.heap.size→M0 F1 β0 b)∧b≠w.heap.size∧b≠w.heap.size+1:=fun β' he r b hr hb=>by rw[he r (ml hr)] at hb;have:=cT r b (ml hr) hb;exact⟨hp.Jr r b (D9.bz (ml hr) _ _ _ _ _) hb,by omega,by omega⟩
 have hD:∀r,D9 r→bz (xh cG true) r∧bz (xh cG true) r:=fun r hr=>⟨hr.bz _ _ _ _ _,hr.bz _ _ _ _ _⟩
 have hr6:=hn6.rel (by decide) kh.uy;have:=BQ (ro:=none) (n:=0) (ds:=[]) (Q':=iZ none aV (bodyPost aV yH (RP β0 I0 w0 a w.heap.size)) uu.tail) (ts:=[40]) (ns:=[]) (k:=13) (l:=(bX uu).toList.drop 13) (Γ:=⟨W6,I5,xh cG true,β5,42,by decide,kh.uy⟩) kV OZ (fun j hj=>by rw[acq];exact acB) O1 ⟨β5,I5,hr6⟩ rfl ⟨rfl,rfl,trivial⟩ T9 [] (fun a7 W7 hr7 h7 => ?_)
 ·rw[ia] at this;rw[show List.range' 13 ((bX uu).toList.drop 13).length++[]=[13,14] from by rw[aed,adb,Me];rfl] at this;exact this
 ·show iZ none aV _ uu.tail .normal (lift [] a7) W7;refine qV.done (Γ:=⟨W6,I5,xh cG true,β5,42,by decide,kh.uy⟩) (v0:=a6.tmps.getD 0 undef) mixed kV OZ (by kernel_rfl) trivial XQ (fun a8 W8 RQ h8 => ?_) a7 W7 hr7 h7;obtain⟨β8,I8,RQ⟩:=RQ;rw[ia];obtain⟨XW,hK8,hL8⟩:=Zg.step RQ rfl rfl rfl hD Rc (hM β5 Zg.par);obtain⟨v,hv,_⟩:=mZ (fn:=yH) (es:=[]) (e := .pv (.bg [])) kV RQ (by rfl) (by rfl);refine⟨RQ.defers,v,hv,some .ret,_,run_endLoop (hL8.trans hL6) (by simp[lr]),?_⟩;have hq8:∀r,bz (xh cG true) r→β8 r≠some (w.heap.size+1):=fun r hr e=>(hM β8 XW.par r _ hr e).2.2 rfl
  have Zh:=(RQ.snap.put (.loop { lr fn a.tmps w.heap.size .done (some .ret) with state := .exhausted }) (fun h=>(XW.nq _ h).2 rfl) hq8);have UZ:=XW.put (.loop { lr fn a.tmps w.heap.size .done (some .ret) with state := .exhausted }) (.inr rfl);have Zi:(W8.putObj (w.heap.size+1) (.loop { lr fn a.tmps w.heap.size .done (some .ret) with state := .exhausted })).heap[w.heap.size]? = some (.deferred (some [])):=(mj (by omega)).trans (hK8.trans hK6);generalize W8.putObj (w.heap.size+1) (.loop { lr fn a.tmps w.heap.size .done (some .ret) with state := .exhausted })=W9 at Zh UZ Zi ⊢;have XX:pA 42 (sE cG true) a W9 β8 I8:=by
   refine Zh.act (HJ fun p FA => ?_) hp.snap.size hp.snap.defers;simp only[List.mem_cons,List.not_mem_nil,or_false] at FA;rcases FA with rfl|rfl
   ·exact vN (hp.snap.env 2 (.ptr 100012 0) rfl) rfl (UZ.par 100012 (by simp[D9]))
   ·exact vN (hp.snap.env 3 (.ptr 100013 0) rfl) rfl (UZ.par 100013 (by simp[D9]))
  show Code.ret.wpIn (Wd none) 0 aV (QP β0 I0 w0) _ W9;refine wpIn_ret (tX _ ?_);show LeavesInM (Wd none) 0 aV FR a.tmps _ _ .returning W9;exact leave HI hp.par UZ XX Zi (fun r b hr hb=>by have:=cT r b hr hb;omega) (by kernel_rfl)
theorem Ua:ag aV 199 [.ptr 100000 0] F1 (.pv (.bg [eL.pv,vB true])) F1:=by
 refine start k1 u1 [dU] _ fun w0 I0 β0 a w β I HI hp => ?_
 refine Zc hp fun fn a1 W1 hk hK hL hn h0 => ?_
 have cT:∀r b,D9 r→β r=some b→b<w.heap.size:=fun r b hr hb=>by obtain⟨sc,gS⟩:=abP.1 (hr.bz k1 u1 [dU] cZ false);exact((hp.snap.aP.1 r sc gS).2 b hb).1
 have hM:∀(β':Nat→Option Nat),(∀r,D9 r→β' r=β r)→∀r b,bz (xh cZ false) r→β' r=some b→(b<w0.heap.size→M0 F1 β0 b)∧b≠w.heap.size∧b≠w.heap.size+1:=fun β' he r b hr hb=>by rw[he r (ml hr)] at hb;have:=cT r b (ml hr) hb;exact⟨hp.Jr r b hr hb,by omega,by omega⟩
 have hD:∀r,D9 r→bz (xh cZ false) r∧bz (xh cZ false) r:=fun r hr=>⟨hr.bz _ _ _ _ _,hr.bz _ _ _ _ _⟩
 have zM:=hn.rel (by decide) kh.uy;have key:qV none aV ⟨W1,I,xh cZ false,β,42,by decide,kh.uy⟩ (.func (.yield (w.heap.size+1)) #[] #[]) [] (bodyPost aV yH (RP β0 I0 w0 a w.heap.size)) [.code (aS yH)] ⟨[(1,.ptr 100010 0)],xh cZ false⟩:=by
  refine qV.go mixed kV OZ (by kernel_rfl) XF T2 ?_;rw[Ra];intro a2 W2 FX h2;rw[ia];show(Code.region 6 (bX uu) false).wpIn (Wd none) 0 aV (iZ none aV (bodyPost aV yH (RP β0 I0 w0 a w.heap.size)) uu.tail) a2 W2;refine wpIn_region ?_;have part:=BQ (ro:=none) (n:=0) (ds:=[]) (Q':=iZ none aV (bodyPost aV yH (RP β0 I0 w0 a w.heap.size)) uu.tail) (ts:=[34,3,4]) (ns:=[]) (k:=0) (l:=(bX uu).toList.take 9) (Γ:=⟨W1,I,xh cZ false,β,42,by decide,kh.uy⟩) kV OZ (fun j hj=>by rw[ac8] at hj;rw[aeg (by omega),acw];exact acB) O1 FX h2 ⟨T7,rfl,rfl,rfl,T8,rfl,trivial⟩ XP [9,10,11,12,13,14] (fun a3 W3 Md h3 => ?_)
  ·rw[ia] at part;rw[show List.range' 0 ((bX uu).toList.take 9).length++[9,10,11,12,13,14]=List.range (bX uu).size from by rw[ac8,adb,Me];rfl] at part;exact part
  obtain⟨β3,I3,Md⟩:=Md;rw[ia];obtain⟨Mc,UY,hL3⟩:=hk.step Md rfl rfl rfl hD Rc (hM β (fun _ _=>rfl));have XY:a3.tmps.getD 34 undef = .bool true:=by have hv:Rd I3 W3 (.bool true) (a3.tmps.getD 34 undef):=Md.env 34 (eB true) rfl;generalize a3.tmps.getD 34 undef=v at hv;cases hv;rfl
  have e3:a3.tmps.getD 3 undef = .int .i64 2:=by have hv:Rd I3 W3 (.int .i64 2) (a3.tmps.getD 3 undef):=Md.env 3 (eI 2) rfl;generalize a3.tmps.getD 3 undef=v at hv;cases hv;rfl
  have e4:a3.tmps.getD 4 undef = .int .i64 3:=by have hv:Rd I3 W3 (.int .i64 3) (a3.tmps.getD 4 undef):=Md.env 4 (eI 3) rfl;generalize a3.tmps.getD 4 undef=v at hv;cases hv;rfl
  have U3:a3.tmps.size=42:=Md.size;have U4:a3.tmps[34]? = some (.bool true):=by rw[abV] at XY;rw[acn (by omega)] at XY ⊢;exact aeI some XY
  have pz:∀(x:Act) (d t:Nat) (v:Value),d≠t→(x.put (some d) v).tmps[t]? = x.tmps[t]? := fun x d t v h=>by show(x.tmps.setIfInBounds d v)[t]? = _;rw[ade,ac3 h]
  have pg:∀(x:Act) (d t:Nat) (v:Value),d≠t→(x.put (some d) v).tmps.getD t undef=x.tmps.getD t undef:=fun x d t v h=>by rw[abV,abV,pz x d t v h]
  have ps:∀(x:Act) (d:Nat) (v:Value),x.tmps.size=42→d<42→(x.put (some d) v).tmps.getD d undef=v:=fun x d v hz hd=>by show(x.tmps.setIfInBounds d v).getD d undef=v;rw[abV,ade,ac7 rfl,ac7 (by omega)];rfl
  obtain⟨o9,p9,q9,d9,g9⟩:=Iy op9;obtain⟨o10,ic,q10,d10,g10⟩:=Iy XS;obtain⟨o11,iA,q11,d11,g11⟩:=Iy XT;obtain⟨o12,jc,q12,d12,g12⟩:=Iy XU;refine L7 p9 q9 (zJ g9 U4) ?_;rw[d9];refine L7 ic q10 (zJ g10 (by rw[pz _ _ _ _ (by decide)];exact U4)) ?_;rw[d10];refine L7 iA q11 (zJ g11 (by rw[pz _ _ _ _ (by decide),pz _ _ _ _ (by decide)];exact U4)) ?_;rw[d11];have v0:a3.eval (.tmp 0) = .func (.yield (w.heap.size+1)) #[] #[]:=h3;have v3:(a3.put (some 35) (a3.eval (.tmp 0))).eval (.tmp 3) = .int .i64 2:=(pg _ _ _ _ (by decide)).trans e3;rw[v3,v0];have v4:((a3.put (some 35) (.func (.yield (w.heap.size+1)) #[] #[])).put (some 36) (.int .i64 2)).eval (.tmp 4) = .int .i64 3:=(pg _ _ _ _ (by decide)).trans ((pg _ _ _ _ (by decide)).trans e4);rw[v4];obtain⟨a5,O2⟩:∃a5:Act,a5=((a3.put (some 35) (.func (.yield (w.heap.size+1)) #[] #[])).put (some 36) (.int .i64 2)).put (some 37) (.int .i64 3):=⟨_,rfl⟩;rw[←O2];have z5:a5.tmps.size=42:=by rw[O2,nj,nj,nj];exact U3
  have f34:a5.tmps[34]? = some (.bool true):=by rw[O2,pz _ _ _ _ (by decide),pz _ _ _ _ (by decide),pz _ _ _ _ (by decide)];exact U4
  have f35:a5.eval (.tmp 35) = .func (.yield (w.heap.size+1)) #[] #[]:=by rw[O2];exact(pg _ _ _ _ (by decide)).trans ((pg _ _ _ _ (by decide)).trans (ps _ _ _ U3 (by decide)))
  have f36:a5.eval (.tmp 36) = .int .i64 2:=by rw[O2];exact(pg _ _ _ _ (by decide)).trans (ps _ _ _ (by rw[nj];exact U3) (by decide))
  have f37:a5.eval (.tmp 37) = .int .i64 3:=by rw[O2];exact ps _ _ _ (by rw[nj,nj];exact U3) (by decide)
  have f0:a5.defers=[]:=by rw[O2,put_defers,put_defers,put_defers];exact Md.defers
  clear O2;have Od:=hL3.trans hL;have hKr:=UY.trans hK;have il:(#[Operand.tmp 36,Operand.tmp 37]:Array Operand).map a5.eval = #[.int .i64 2,.int .i64 3]:=by simp[f36,f37]
  refine XB jc q12 (zJ g12 f34) f35 (by rw[il];exact run_yield Od rfl) ?_;rw[d12];obtain⟨tR,Zj⟩:∃tR:Array Value,tR=((lr fn a.tmps w.heap.size .ready none).params.zip #[Value.int .i64 2,Value.int .i64 3]).foldl (fun tmps (t,a)=>tmps.setIfInBounds t a) (lr fn a.tmps w.heap.size .ready none).tmps:=⟨_,rfl⟩;rw[←Zj];have N9:tR=(a.tmps.setIfInBounds 11 (.int .i64 2)).setIfInBounds 12 (.int .i64 3):=by rw[Zj];simp[lr]
  have za:a.tmps.size=42:=hp.snap.size;have gR:∀t,t≠11→t≠12→tR.getD t undef=a.tmps.getD t undef:=fun t h1 h2=>by rw[N9];simp only[Array.getD_eq_getD_getElem?,Array.getElem?_setIfInBounds];rw[ac3 (fun e=>h2 e.symm),ac3 (fun e=>h1 e.symm)]
  have XZ:tR.getD 11 undef = .int .i64 2:=by rw[N9];simp[Array.getD_eq_getD_getElem?,za]
  have X0:tR.getD 12 undef = .int .i64 3:=by rw[N9];simp[Array.getD_eq_getD_getElem?,za]
  have Vx:pA 42 ⟨Re,xh cZ false⟩ { tmps:=tR,defers:=[] } W3 β3 I3:=by
   refine Md.snap.act (HJ fun p FA => ?_) (by rw[N9];simp[za]) rfl;simp only[List.mem_cons,List.not_mem_nil,or_false] at FA;rcases FA with rfl|rfl|rfl|rfl|rfl
   ·show RE _ _ _ _ _ (tR.getD 1 undef);rw[gR 1 (by decide) (by decide)];exact vN (hp.snap.env 1 (.ptr 100011 0) rfl) rfl (Mc.par 100011 (by simp[D9]))
   ·show RE _ _ _ _ _ (tR.getD 2 undef);rw[gR 2 (by decide) (by decide)];exact vN (hp.snap.env 2 (.ptr 100012 0) rfl) rfl (Mc.par 100012 (by simp[D9]))
   ·show RE _ _ _ _ _ (tR.getD 3 undef);rw[gR 3 (by decide) (by decide)];exact vN (hp.snap.env 3 (.ptr 100013 0) rfl) rfl (Mc.par 100013 (by simp[D9]))
   ·show RE _ _ _ _ _ (tR.getD 11 undef);rw[XZ];exact Rd.int _ _
   ·show RE _ _ _ _ _ (tR.getD 12 undef);rw[X0];exact Rd.int _ _
  have hrR:=Vx.rel (by decide) kh.uy;refine roundIn_of_wpIn trivial ?_;have X1:qV (some (w.heap.size+1)) aV ⟨W3,I3,xh cZ false,β3,42,by decide,kh.uy⟩ (tR.getD 0 undef) [] (Exit.then (fun a₁ w₁=>∃w₂,(Instr.beginRound (w.heap.size+1)).run aV w₁ = .ok () w₂∧(N8 atR).wpIn ((Wd none).inRound (w.heap.size+1)) 0 aV (roundPost aV (w.heap.size+1) (fun e w'=>∃v,e = .returned v∧wpOpsIn (Wd none) 0 aV (bX uu) (iZ none aV (bodyPost aV yH (RP β0 I0 w0 a w.heap.size)) uu.tail) [13,14] (a5.put (some 38) v) w')) a₁ w₂) (fun _ _ _=>False)) [.code (Q8 atR)] ⟨Re,xh cZ false⟩:=by
   refine qV.go mixed kV OZ (by kernel_rfl) trivial XL ?_;intro aA WA Ub hA0;obtain⟨βA,IA,Ub⟩:=Ub;rw[ia];obtain⟨RR,hKA,hLA⟩:=Mc.step Ub rfl rfl rfl (fun r hr=>⟨hr.bz _ _ _ _ _,by unfold D9 at hr;simp only[List.mem_cons,List.not_mem_nil,or_false] at hr;rcases hr with rfl|rfl|rfl|rfl|rfl|rfl|rfl|rfl|rfl<;>exact rfl⟩) Rc (hM β3 Mc.par)
   have hnA:pA 42 sB aA WA (βX βA σB) IA:=Ub.snap.pH (σ:=σB) (env:=sB.env) (by rfl) (by rfl);have hb5:∀b,βX βA σB 100005=some b→w.heap.size+2≤b:=fun b hb=>by
    rcases Ub.new 5 b rfl (.inl (fun h=>by have:=ml h;simp at this)) hb with h|⟨x,h1,h2,_⟩
    ·have h:W3.heap.size≤b:=h;have:=Mc.Jr;omega
    ·exact absurd h1 (Rc x h2)
   have O3:∀r,D9 r→βX βA σB r=β r:=fun r hr=>by rw[←RR.par r hr];unfold D9 at hr;simp only[List.mem_cons,List.not_mem_nil,or_false] at hr;rcases hr with rfl|rfl|rfl|rfl|rfl|rfl|rfl|rfl|rfl<;>rfl
   have X2:Lk w0 I0 (M0 F1 β0) β D9 w.heap.size WA (βX βA σB) IA:=⟨O3,RR.aW,RR.ii,RR.nq,RR.low,RR.Jr⟩;have Ek:∀r,bz (RN cZ false) r→r=100005∨D9 r:=fun r hr=>by
    have:r∈(RN cZ false).map (·.1):=xW (fun q hq=>by
     rcases ac0.1 hq with rfl|hq
     ·show 100005<999999;decide
     ·exact L8 _ _ _ _ _ q hq) hr
    rcases ac0.1 this with h|h
    ·exact .inl h
    ·exact .inr h
   have Uc:∀r,D9 r→bz (RN cZ false) r:=fun r hr=>by unfold D9 at hr;simp only[List.mem_cons,List.not_mem_nil,or_false] at hr;rcases hr with rfl|rfl|rfl|rfl|rfl|rfl|rfl|rfl|rfl<;>exact rfl
   have Ud:∀r b,bz (RN cZ false) r→βX βA σB r=some b→(b<w0.heap.size→M0 F1 β0 b)∧b≠w.heap.size∧b≠w.heap.size+1:=fun r b hr hb=>by
    rcases Ek r hr with rfl|h9
    ·have:=hb5 b hb;have:=hp.aW.size;exact⟨fun h=>by omega,by omega,by omega⟩
    ·exact hM _ O3 r b (h9.bz _ _ _ _ _) hb
   have X3:=hLA.trans Od;have X4:=hKA.trans hKr;refine⟨_,run_beginRound X3 rfl,?_⟩;have Zk:=X2.put (.loop { lr fn a.tmps w.heap.size .ready none with state := .busy }) (.inr rfl);have Zl:=hnA.put (.loop { lr fn a.tmps w.heap.size .ready none with state := .busy }) (fun h=>(X2.nq _ h).2 rfl) (fun r hr e=>(Ud r _ hr e).2.2 rfl);have Zm:(WA.putObj (w.heap.size+1) (.loop { lr fn a.tmps w.heap.size .ready none with state := .busy })).heap[w.heap.size+1]? = some (.loop { lr fn a.tmps w.heap.size .ready none with state := .busy }):=World.putObj_heap_same (by have:=X2.Jr;omega);have Zn:(WA.putObj (w.heap.size+1) (.loop { lr fn a.tmps w.heap.size .ready none with state := .busy })).heap[w.heap.size]? = some (.deferred (some [])):=(mj (by omega)).trans X4;generalize WA.putObj (w.heap.size+1) (.loop { lr fn a.tmps w.heap.size .ready none with state := .busy })=WC at Zk Zl Zm Zn ⊢;have hrC:=Zl.rel (by decide) kh.uy;have X5:qV (some (w.heap.size+1)) aV ⟨WC,IA,RN cZ false,βX βA σB,42,by decide,kh.uy⟩ (aA.tmps.getD 0 undef) [] (roundPost aV (w.heap.size+1) (fun e w'=>∃v,e = .returned v∧wpOpsIn (Wd none) 0 aV (bX uu) (iZ none aV (bodyPost aV yH (RP β0 I0 w0 a w.heap.size)) uu.tail) [13,14] (a5.put (some 38) v) w')) [.code (N8 atR)] sB:=by
    refine qV.done mixed kV (fun r hr => ?_) (by kernel_rfl) okB XO ?_
    ·rcases Ek r hr with rfl|h9
     ·show 42≤100005;decide
     ·exact OZ r (h9.bz k1 u1 [dU] cZ false)
    intro aD WD U5 _;obtain⟨βD,ID,U5⟩:=U5;rw[ia];obtain⟨U6,hKD,hLD⟩:=Zk.step U5 rfl rfl rfl (fun r hr=>⟨Uc r hr,hr.bz _ _ _ _ _⟩) (fun r hr=>by
     rcases Ek r hr with rfl|h9
     ·show ¬gv 100005;unfold gv;omega
     ·exact Rc r (h9.bz k1 u1 [dU] cZ false)) Ud
    refine⟨_,_,run_endRound (some .ret) (hLD.trans Zm),_,rfl,?_⟩;have hqD:∀r,bz (xh cG true) r→βD r≠some (w.heap.size+1):=fun r hr e=>by rw[U6.par r (ml hr)] at e;have:=cT r _ (ml hr) e;omega
    have hkE:=U6.put (.loop (lr fn a.tmps w.heap.size .done (some .ret))) (.inr rfl);have hnE:=U5.snap.put (.loop (lr fn a.tmps w.heap.size .done (some .ret))) (fun h=>(U6.nq _ h).2 rfl) hqD;have hLE:(WD.putObj (w.heap.size+1) (.loop (lr fn a.tmps w.heap.size .done (some .ret)))).heap[w.heap.size+1]? = some (.loop (lr fn a.tmps w.heap.size .done (some .ret))):=World.putObj_heap_same (by have:=U6.Jr;omega);have hKE:(WD.putObj (w.heap.size+1) (.loop (lr fn a.tmps w.heap.size .done (some .ret)))).heap[w.heap.size]? = some (.deferred (some [])):=(mj (by omega)).trans (hKD.trans Zn);refine after HI hp hkE hKE hLE (hnE.act (HJ fun p FA => ?_) (by rw[nj];exact z5) (by rw[put_defers];exact f0));simp only[List.mem_cons,List.not_mem_nil,or_false] at FA;rcases FA with rfl|rfl
    ·show RE _ _ _ _ _ ((a5.put (some 38) _).tmps.getD 34 undef);rw[pg _ _ _ _ (by decide),abV,f34];exact Rd.bool true
    ·show RE _ _ _ _ _ ((a5.put (some 38) _).tmps.getD 38 undef);rw[ps _ _ _ z5 (by decide)];exact Rd.bool false
   have:=X5 aA WC ⟨_,_,hrC⟩ rfl;rw[ia] at this;exact this
  have:=X1 { tmps:=tR,defers:=[] } W3 ⟨_,_,hrR⟩ rfl;rw[ia] at this;exact this
 have:=key a1 W1 ⟨β,I,zM⟩ h0;rw[ia] at this;exact this
theorem Mf:yE:=⟨Ua,T5⟩
end Mz
end Go.Proofs.YtneklnlpgfeplaaGreat.Sym
namespace Go.Proofs.YtneklnlpgfeplaaGreat.Sym
open Go Path eJ Ct
set_option linter.unusedVariables false
set_option maxRecDepth 20000
namespace Ct
def qW(a:aq):Prop:=a.num.length≤35184372087808∧a.den.length≤35184372087808
theorem Mg{a:aq}(hv:a.valid=true)(h:a.num.length+a.den.length≤2):ht a.val≤1:=by
 by_cases h0:a.num=[]
 ·rw[uo h0,kG];omega
 ·obtain⟨h1,_,_,_⟩:=k8 hv h0;have n0:a.num.length≠0:=fun e=>h0 (abT e)
  have d0:a.den.length≠0:=fun e=>h1 (abT e)
  exact kS (by omega) (by omega) (by omega)
theorem Ue{a:aq}(h:qW a):Cp 20 [ae [a]] (vB (decide (2<a.num.length+a.den.length))):=by
 obtain⟨h1,h2⟩:=h;refine hO.e0 [a] ?_;by_cases h:2<a.num.length+a.den.length
 ·rw[acf h];exact hO.eu [a] 0 a (by simp) rfl (by omega) h
 ·rw[aci h];exact hO.dp [a] 0 a (by simp) rfl (by omega) (by omega) (by omega) (hO.im [a] 1 (by simp))
theorem Iz{L:List aq}(hl:L.length<1152921504606846976)(hL:∀v∈L,qW v):∃ok:Bool,Cp 5 [ae L] (vB ok)∧(ok=true→∃l:List Rat,L=l.map bw∧Sh l):=by
 have loop:∀(n t:Nat),L.length-t=n→t≤L.length→∃ok:Bool,ef.ay L t (vB ok)∧(ok=true→∃l:List Rat,L.drop t=l.map bw∧Sh l):=by
  intro n
  induction n with
  |zero =>intro t h1 h2;exact⟨true,ef.G5 L t (by omega),fun _=>⟨[],by rw[adZ (by omega)];rfl,fun x hx=>by cases hx⟩⟩
  |succ n ih =>
   intro t h1 h2;have cT:t<L.length:=by omega
   have hv:=abJ cT;have hm:=hL _ (acj cT);rw[acx cT];generalize L[t]=v at hv hm ⊢;have hV:=UP.Valid v hm;cases Im:v.valid with
   |false=>rw[Im] at hV;exact⟨false,ef.eu L t v _ cT hv hV rfl,fun e=>by cases e⟩
   |true =>
    rw[Im] at hV;have hg:=Ue hm;by_cases h2:2<v.num.length+v.den.length
    ·exact⟨false,ef.dp L t v _ _ cT hv hV rfl hg (acf h2),fun e=>by cases e⟩
    ·have hS:=Xa.Sign v ⟨by omega,by omega⟩;by_cases h0:0<v.val
     ·obtain⟨ok,k1,k2⟩:=ih (t+1) (by omega) (by omega);refine⟨ok,ef.ym L t v _ _ _ cT hv hV rfl hg (aci h2) hS (ow.2 h0) (by omega) k1,fun e => ?_⟩;obtain⟨l,g1,g2⟩:=k2 e;refine⟨v.val::l,by rw[g1,acI,Ea Im],fun x hx => ?_⟩;rcases ac0.1 hx with rfl|hx
      ·exact⟨Mg Im (by omega),h0⟩
      ·exact g2 x hx
     ·exact⟨false,ef.im L t v _ _ _ cT hv hV rfl hg (aci h2) hS (Ee.2 (aeJ.1 h0)),fun e=>by cases e⟩
 obtain⟨ok,k1,k2⟩:=loop _ 0 rfl (by omega);rw[adg] at k2;exact⟨ok,ef.e0 L k1,k2⟩
theorem FT{a:bn}(h:qW a.t):∃ok:Bool,Cp 7 [a.pv] (vB ok)∧(ok=true→∃q:QT,a=tR q∧NN q):=by
 have hV:=UP.Valid a.t h;cases Im:a.t.valid with
 |false =>rw[Im] at hV;exact⟨false,gJ.e1 a _ (fT.e0 a _ hV rfl) (by omega),fun e=>by cases e⟩
 |true =>
  rw[Im] at hV;have fin:Cp 22 [a.pv] (vI 0)→(a.half=true→a.t.val=0)→∃ok:Bool,Cp 7 [a.pv] (vB ok)∧(ok=true→∃q:QT,a=tR q∧NN q):=fun hc hz=>by
   refine⟨_,gJ.e0 a _ _ hc rfl (Ue h),fun e=>⟨(a.t.val,a.half),?_,Mg Im ?_,hz⟩⟩
   ·show a=⟨bw a.t.val,a.half⟩;rw[Ea Im]
   ·simp at e;exact e
  cases hh:a.half with
  |false=>exact fin (fT.e3 a _ hV rfl hh) (fun e=>by rw[hh] at e;cases e)
  |true =>
   have hS:=UP.Sign a.t h;by_cases h0:kB a.t.val 0=0
   ·exact fin (fT.e2 a _ _ hV rfl hh hS h0) (fun _=>jy.1 h0)
   ·exact⟨false,gJ.e1 a _ (fT.e1 a _ _ hV rfl hh hS h0) (by omega),fun e=>by cases e⟩
inductive HT:aI→Prop
 |mk (a b:Int) (k:List aI) (h:k.length<1152921504606846976) (hk:∀t∈k,HT t):HT ⟨a,b,k⟩
theorem nodes{t:aI}(h:HT t):∀b:Int,0≤b→b≤200→∃m:Int,0≤m∧Cp 6 [t.pv,vI b] (vI m):=by
 induction h with
 |mk ta tb tk hl _ ih =>
  intro b h1 h2;have loop:∀(n t:Nat) (b:Int),tk.length-t=n→t≤tk.length→0≤b→∃m:Int,0≤m∧fL.ay b t ta tb tk (vI m):=by
   intro n
   induction n with
   |zero=>intro t b k1 k2 k3;exact⟨b,k3,fL.im b t ta tb tk (by omega)⟩
   |succ n ihn =>
    intro t b k1 k2 k3;have cT:t<tk.length:=by omega
    by_cases h200:200<b
    ·exact⟨b,k3,fL.dp b t ta tb tk cT h200⟩
    ·have hv:=abJ cT;have hr:=ih _ (acj cT);generalize tk[t]=u at hv hr;obtain⟨d,g,i⟩:=u;obtain⟨j,j1,j2⟩:=hr b k3 (by omega);obtain⟨m,m1,m2⟩:=ihn (t+1) j (by omega) (by omega) j1;exact⟨m,m1,fL.eu b t ta tb tk d g i j cT (by omega) hv j2 (by omega) m2⟩
  obtain⟨m,m1,m2⟩:=loop _ 0 (b+1) rfl (by omega) (by omega);exact⟨m,m1,fL.e0 ta tb tk b (by unfold bf;omega) m2⟩
theorem mh:Cp 4 [] (vB true):=Y5.mh Mz.Mf
theorem Mh(a b:Int):∃p:Int,cu true .mul (.int .i64 a) (.int .i64 b)=some (.int .i64 p):=⟨_,rfl⟩
structure HC (k:aN):Prop where
 g:k.g.length<1152921504606846976∧∀v∈k.g,qW v
 a:k.a.length<1152921504606846976∧∀v∈k.a,qW v
 b:k.b.length<1152921504606846976∧∀v∈k.b,qW v
 c:k.c.length<1152921504606846976∧∀v∈k.c,qW v
 p:k.bP.length<1152921504606846976∧∀v∈k.bP,qW v.GP.t∧qW v.out.t
theorem bP{L:List bQ}(hl:L.length<1152921504606846976)(hL:∀v∈L,qW v.GP.t∧qW v.out.t)(c:aN)(hc:c.bP=L)(x:bW)(ta tb:Int)(tk:List aI)
  (fin:∀d,L.length≤d→∀ps:List (QT×QT),L=ps.map pR→(∀q∈ps,JC q)→bk.ay d c x ta tb tk (vB true)):bk.ay 0 c x ta tb tk (vB true):=by
 have loop:∀(n t:Nat),L.length-t=n→t≤L.length→(∃ps:List (QT×QT),L.take t=ps.map pR∧∀q∈ps,JC q)→bk.ay t c x ta tb tk (vB true):=by
  intro n
  induction n with
  |zero =>intro t h1 h2 ⟨ps,h3,h4⟩;rw[acd (by omega)] at h3;exact fin t (by omega) ps h3 h4
  |succ n ih =>
   intro t h1 h2 ⟨ps,h3,h4⟩;have cT:t<L.length:=by omega
   have hv:=abJ cT;obtain⟨m1,m2⟩:=hL _ (acj cT);have Sj:L.take (t+1)=L.take t++[L[t]]:=List.take_succ_eq_append_getElem cT;generalize L[t]=v at hv m1 m2 Sj;obtain⟨Ji,a1,a2⟩:=FT m1;obtain⟨ok2,b1,b2⟩:=FT m2;have IJ:t<c.bP.length:=by rw[hc];exact cT
   have ME:c.bP[t]? = some v:=by rw[hc];exact hv
   cases Ji with
   |false=>exact bk.eu t c x ta tb tk v _ IJ ME a1 rfl
   |true =>
    cases ok2 with
    |false=>exact bk.dp t c x ta tb tk v _ _ IJ ME a1 rfl b1 rfl
    |true =>
     obtain⟨q1,e1,o1⟩:=a2 rfl;obtain⟨q2,e2,o2⟩:=b2 rfl;refine bk.im t c x ta tb tk v _ _ IJ ME a1 rfl b1 rfl (by omega) (ih (t+1) (by omega) (by omega) ⟨ps++[(q1,q2)],?_,fun q hq => ?_⟩)
     ·rw[Sj,h3,adu,acI,aeA]
      congr 1
      show[v]=[⟨tR q1,tR q2⟩];rw[←e1,←e2]
     ·rcases acs.1 hq with hq|hq
      ·exact h4 q hq
      ·rw[adJ.1 hq];exact⟨o1,o2⟩
 exact loop _ 0 rfl (by omega) ⟨[],rfl,fun q hq=>by cases hq⟩
theorem BR{c:aN}{x:bW}{t:aI}(hc:HC c)(hx:qW x.cost)(hT:HT t):Cp 3 [c.pv,x.pv,t.pv] (vB true):=by
 obtain⟨m,m0,hm⟩:=nodes hT 0 (by omega) (by omega);obtain⟨ta,tb,tk⟩:=t;obtain⟨p,hp⟩:=Mh (c.g.length:Int) (c.a.length:Int);obtain⟨p1,ij⟩:=Mh p (c.b.length:Int);obtain⟨p2,iz⟩:=Mh p1 (c.c.length:Int);obtain⟨x1,x2⟩:=hx;by_cases b0:40<p2
 ·exact bk.e1 c x ta tb tk _ _ _ _ _ mh rfl hp ij iz b0 mh
 by_cases b1:3<c.bP.length
 ·exact bk.e2 c x ta tb tk _ _ _ _ _ mh rfl hp ij iz (by omega) b1 mh
 obtain⟨o1,g1,g2⟩:=Iz hc.g.1 hc.g.2;obtain⟨o2,a1,a2⟩:=Iz hc.a.1 hc.a.2;obtain⟨o3,Uf,b2⟩:=Iz hc.b.1 hc.b.2;obtain⟨o4,c1,c2⟩:=Iz hc.c.1 hc.c.2;cases o1 with
 |false=>exact bk.e3 c x ta tb tk _ _ _ _ _ _ mh rfl hp ij iz (by omega) (by omega) g1 rfl mh
 |true =>
 cases o2 with
 |false=>exact bk.e4 c x ta tb tk _ _ _ _ _ _ _ mh rfl hp ij iz (by omega) (by omega) g1 rfl a1 rfl mh
 |true =>
 cases o3 with
 |false=>exact bk.e5 c x ta tb tk _ _ _ _ _ _ _ _ mh rfl hp ij iz (by omega) (by omega) g1 rfl a1 rfl Uf rfl mh
 |true =>
 cases o4 with
 |false=>exact bk.e6 c x ta tb tk _ _ _ _ _ _ _ _ _ mh rfl hp ij iz (by omega) (by omega) g1 rfl a1 rfl Uf rfl c1 rfl mh
 |true =>
 by_cases b3:200<m
 ·exact bk.e7 c x ta tb tk _ _ _ _ _ _ _ _ _ _ mh rfl hp ij iz (by omega) (by omega) g1 rfl a1 rfl Uf rfl c1 rfl hm b3 mh
 by_cases b4:20<x.cost.num.length+x.cost.den.length
 ·exact bk.e8 c x ta tb tk _ _ _ _ _ _ _ _ _ _ mh rfl hp ij iz (by omega) (by omega) g1 rfl a1 rfl Uf rfl c1 rfl hm (by omega) (by omega) b4 mh
 refine bk.e9 c x ta tb tk _ _ _ _ _ _ _ _ _ mh rfl hp ij iz (by omega) (by omega) g1 rfl a1 rfl Uf rfl c1 rfl hm (by omega) (by omega) (by omega) ?_;obtain⟨gs,eg,sg⟩:=g2 rfl;obtain⟨al,ea,sa⟩:=a2 rfl;obtain⟨bs,eb,sb⟩:=b2 rfl;obtain⟨rs,er,sr⟩:=c2 rfl;refine bP hc.p.1 hc.p.2 c rfl x ta tb tk fun d hd ps Zo lB => ?_
 obtain⟨cg,ca,cb,cc,cp⟩:=c;simp only at eg ea eb er Zo hd;subst eg;subst ea;subst eb;subst er;subst Zo;have X6:Tq ⟨gs,al,bs,rs,ps⟩:=⟨sg,sa,sb,sr,lB⟩;rcases Check X6 with ⟨e,he⟩|⟨hk,hG⟩
 ·exact bk.SN d _ x ta tb tk e hd he
 obtain⟨o,⟨ho,J8⟩,hB⟩:=Xf hG hk;have hoh:=C8 hG ho ho;obtain⟨i0,i1,i2,i3⟩:=id ho;have ok:QO (iO gs o.f0) (iO al o.f1) (iO bs o.f2) (iO rs o.f3) :=
  ⟨(iY hG.g i0).1,(iY hG.a i1).1,(iY hG.b i2).1,(iY hG.c i3).1,(iY hG.g i0).2,(iY hG.a i1).2,(iY hG.b i2).2,(iY hG.c i3).2⟩
 obtain⟨fit,f1,f2⟩:=Fits lB (by have:ps.length≤4:=hG.n4;omega) ok;have X7:Cp 12 [(bw (iO bs o.f2)).pv] (bw (iO bs o.f2*iO bs o.f2)).pv:=pf.e0 _ _ (QF.Mul _ _ (by have:=ok.b1;omega) (by have:=ok.b1;omega));have hS:=QF.Sign (cs ⟨gs,al,bs,rs,ps⟩ o) (by show ht (bd _ o o)≤_;omega);have hz:(fit==(kB (cs ⟨gs,al,bs,rs,ps⟩ o) 0==0))=true:=by
  have key:cs ⟨gs,al,bs,rs,ps⟩ o=0↔∀q∈ps,errX (ll q) (iO gs o.f0) (iO al o.f1) (iO bs o.f2) (iO rs o.f3)=0:=by have:=Lv (g:=iO gs o.f0) (a:=iO al o.f1) (b:=iO bs o.f2) (r:=iO rs o.f3) ps 0 aew;simpa[cs,bd] using this
  by_cases h0:cs ⟨gs,al,bs,rs,ps⟩ o=0
  ·have h1:=f2.2 (key.1 h0);have h2:=jy.2 h0;rw[h1,h2];rfl
  ·have h1:fit=false:=by
    cases hf:fit with
    |false=>rfl
    |true=>exact absurd (key.2 (f2.1 hf)) h0
   have h2:kB (cs ⟨gs,al,bs,rs,ps⟩ o) 0≠0:=fun e=>h0 (jy.1 e)
   rw[h1];simpa using h2
 have ln:∀l:List Rat,((l.map bw).length:Int)=(l.length:Int):=fun l=>by simp
 rw[←hz];rcases Hy hG hk x (by omega) ta tb tk with ⟨e,he⟩|⟨okv,hV,hv⟩
 ·exact bk.Mv d _ x ta tb tk ⟨o,bw (cs ⟨gs,al,bs,rs,ps⟩ o)⟩ _ _ _ _ _ _ o.f0.toNat _ o.f1.toNat _ o.f2.toNat _ _ o.f3.toNat _ _ _ hd hk hB he i0.1 (by omega) rfl (by rw[ln];exact i0.2) i1.1 (by omega) rfl (by rw[ln];exact i1.2) i2.1 (by omega) rfl (by rw[ln];exact i2.2) i3.1 (by omega) rfl (by rw[ln];exact i3.2)
   (fV i0).1 (hZ i0) (fV i1).1 (hZ i1) (fV i2).1 (hZ i2) X7 (fV i3).1 (hZ i3) f1 hS
 cases okv with
 |false =>
  exact bk.G5 d _ x ta tb tk ⟨o,bw (cs ⟨gs,al,bs,rs,ps⟩ o)⟩ _ _ _ _ _ o.f0.toNat _ o.f1.toNat _ o.f2.toNat _ _ o.f3.toNat _ _ _ hd hk hB hV rfl i0.1 (by omega) rfl (by rw[ln];exact i0.2) i1.1 (by omega) rfl (by rw[ln];exact i1.2) i2.1 (by omega) rfl (by rw[ln];exact i2.2) i3.1 (by omega) rfl (by rw[ln];exact i3.2)
   (fV i0).1 (hZ i0) (fV i1).1 (hZ i1) (fV i2).1 (hZ i2) X7 (fV i3).1 (hZ i3) f1 hS
 |true =>
  obtain⟨ex,KB,hxm⟩:=hv rfl;have hxh:=C8 hG KB KB;have heq:cs ⟨gs,al,bs,rs,ps⟩ x.index=cs ⟨gs,al,bs,rs,ps⟩ o:=afi (hxm o ho) (J8 x.index KB);have hC:=QF.Et (cs ⟨gs,al,bs,rs,ps⟩ x.index) (cs ⟨gs,al,bs,rs,ps⟩ o) (by show ht (bd _ x.index x.index)≤_;omega) (by show ht (bd _ o o)≤_;omega);rw[←ex] at hC;exact bk.ym d _ x ta tb tk ⟨o,bw (cs ⟨gs,al,bs,rs,ps⟩ o)⟩ _ _ _ _ _ _ o.f0.toNat _ o.f1.toNat _ o.f2.toNat _ _ o.f3.toNat _ _ _ hd hk hB hV rfl hC (jy.2 heq) i0.1 (by omega) rfl (by rw[ln];exact i0.2) i1.1 (by omega) rfl (by rw[ln];exact i1.2) i2.1 (by omega) rfl (by rw[ln];exact i2.2) i3.1 (by omega) rfl (by rw[ln];exact i3.2)
   (fV i0).1 (hZ i0) (fV i1).1 (hZ i1) (fV i2).1 (hZ i2) X7 (fV i3).1 (hZ i3) f1 hS
end Ct
end Go.Proofs.YtneklnlpgfeplaaGreat.Sym
namespace Go.Proofs.YtneklnlpgfeplaaGreat.Sym
open Go Go.RowKit Go.ChangeShapes Go.WideShapes Ct
set_option linter.unusedVariables false
theorem El{P:Program}{t e:TypeId}{α:Type}{f:α→List PV}{Q:α→Prop}{s sb:Nat}(ht:P.underlying t=some (.slice e))(hs:P.cellsOf e=s)(Mq:0<s)(Wy:P.bytesOf e=sb)(hf:∀a,(f a).length=s){H:Type}{enc:TypeId×Value→H}{w:World}{base:Nat}{spare:Nat→Bool}{held:Bool}{fuel:Nat}{cs:List Value}{x:DataW H×List MemPlace}
  (h:DataW.trod enc P w base spare held fuel t cs=some x) (ou:∀n∈x.1.weights P t,n≤reachBytes)
  (ho:∀(n:Nat) (Ez:List Value) (d:DataW H×List MemPlace),SizeOf.sizeOf d.1<SizeOf.sizeOf x.1→DataW.trod enc P w base spare held n e Ez=some d→(∀n∈d.1.weights P e,n≤reachBytes)→∃a,bO (Old w) w (f a) Ez∧Q a) :
  ∃l:List α,bO (Old w) w [.list (l.map f)] cs∧l.length*sb≤reachBytes∧∀a∈l,Q a:=by
 rcases Deep.open_slice ht h with ⟨rfl,_⟩|⟨a,len,cap,m,n,D,Pl,rfl,hb,hl,hm,Wz,Jy,hx⟩
 ·exact⟨[],ir rfl (.nil _ _),by simp,by simp⟩
 rw[hs] at hx;have Qt:len≤m:=by rw[Wz];split<;>omega
 have uJ:∀i,i<len→∃(y:α×List Value),w.cells? base (a.add (i*s)) s=some y.2∧bO (Old w) w (f y.1) y.2∧Q y.1:=by
  intro i hi;obtain⟨Ez,h1,h2⟩:=hx i (by omega);have ji:SizeOf.sizeOf (D i)<SizeOf.sizeOf x.1:=by rw[Jy];have:=List.sizeOf_lt_of_mem (show D i∈(List.range len).map D from aca.2 ⟨i,adf.2 hi,rfl⟩);show SizeOf.sizeOf (D i)<SizeOf.sizeOf (DataW.slice _ _);simp only[DataW.slice.sizeOf_spec];omega
  obtain⟨y,h3,h4⟩:=ho n Ez _ ji h2 (fun q hq=>ou q (by rw[Jy];simp only[DataW.weights,ht,List.mem_cons,List.mem_append];exact Or.inr (Or.inl (pY (aca.2 ⟨i,adf.2 hi,rfl⟩) hq))))
  exact⟨(y,Ez),h1,h3,h4⟩
 by_cases h0:len=0
 ·subst h0;exact⟨[],ir rfl (.nil _ _),by simp,by simp⟩
 have nZ:Nonempty (α×List Value):=⟨(uJ 0 (by omega)).choose⟩;have:Inhabited (α×List Value):=Classical.inhabited_of_nonempty nZ;obtain⟨Y,hY⟩:=Deep.choose_lt uJ;obtain⟨c0,_⟩:=hY 0 (by omega);obtain⟨_,cl0,WB⟩:=aet c0;have cg:=WB 0 Mq;obtain⟨v0,SY⟩:∃v,(Y 0).2[0]? = some v:=⟨_,abJ (by omega)⟩;rw[SY] at cg;rw[afd,w5,w5] at cg;obtain⟨FY,OK⟩:=Fy cg;obtain⟨b,o,sp⟩:=a;simp only at FY OK;subst FY;have Fz:∀i j:Nat,i<len→j<s→w.cell? ⟨b,o+(i*s+j),none⟩=(Y i).2[j]? := by intro i j hi hj;obtain⟨c1,_⟩:=hY i hi;obtain⟨_,_,g⟩:=aet c1;have:=g j hj;rw[uh,uh,ael] at this;exact this
 refine⟨(List.range len).map (fun i=>(Y i).1),ir rfl ?_,?_,?_⟩
 ·have e:len=(((List.range len).map (fun i=>(Y i).1)).map f).length:=by simp
  have wg:∀(i:Nat) row,(((List.range len).map (fun i=>(Y i).1)).map f)[i]? = some row→i<len∧row=f (Y i).1:=by
   intro i row hr;have hi:i<len:=by have:=(abL.1 hr).1;rw[←e] at this;exact this
   refine⟨hi,?_⟩;simp[List.getElem?_map,List.getElem?_range hi] at hr;exact hr.symm
  have key:Rd (Old w) w (.list (((List.range len).map (fun i=>(Y i).1)).map f)) (.slice (some ⟨b,o,none⟩) (((List.range len).map (fun i=>(Y i).1)).map f).length cap):=by
   refine Rd.list _ b o cap s (fun i j=>((Y i).2[j]?).getD .nilIface) (by rw[←e];exact hl) OK ?_ ?_ ?_
   ·intro i row hr;obtain⟨_,rfl⟩:=wg i row hr;exact hf _
   ·intro i j row x hr EX;obtain⟨hi,rfl⟩:=wg i row hr;obtain⟨c1,r1,_⟩:=hY i hi;have hj:j<s:=by rw[←hf (Y i).1];exact(abL.1 EX).1
    have hlen:=r1.1;obtain⟨u,hu⟩:∃u,(Y i).2[j]? = some u:=⟨_,abJ (by rw[←hlen,hf];exact hj)⟩;refine⟨(r1.2 j x u EX hu).1,?_⟩;rw[Fz i j hi hj,hu];rfl
   ·intro i j row x hr EX;obtain⟨hi,rfl⟩:=wg i row hr;obtain⟨c1,r1,_⟩:=hY i hi;have hj:j<s:=by rw[←hf (Y i).1];exact(abL.1 EX).1
    have hlen:=r1.1;obtain⟨u,hu⟩:∃u,(Y i).2[j]? = some u:=⟨_,abJ (by rw[←hlen,hf];exact hj)⟩;rw[hu];exact(r1.2 j x u EX hu).2
  rw[←e] at key;exact key
 ·have:=ou ((len+(m-len))*sb) (by
   rw[Jy];simp only[DataW.weights,ht,Wy,List.length_map,List.length_range,List.mem_cons,true_or])
  rw[abS,adC];exact abZ (ac9 _ (by omega)) this
 ·intro y hy;obtain⟨i,hi,rfl⟩:=aca.1 hy;exact(hY i (adf.1 hi)).2.2
theorem Em{P:Program}{t u:TypeId}{fs:Array Field}{α:Type}{f:α→List PV}{Q:α→Prop}(ht:P.underlying t=some (.struct fs)){H:Type}{enc:TypeId×Value→H}{w:World}{base:Nat}{spare:Nat→Bool}{held:Bool}{fuel:Nat}{cs:List Value}{x:DataW H×List MemPlace}
  (h:DataW.trod enc P w base spare held fuel t cs=some x) (ou:∀n∈x.1.weights P t,n≤reachBytes) (i off s:Nat) (hi:(fs[i]?).map (fun f=>(f.type,f.offset))=some (u,off)) (hs:P.cellsOf u=s)
  (ho:∀(n:Nat) (Ez:List Value) (d:DataW H×List MemPlace),SizeOf.sizeOf d.1<SizeOf.sizeOf x.1→DataW.trod enc P w base spare held n u Ez=some d→(∀n∈d.1.weights P u,n≤reachBytes)→∃a,bO (Old w) w (f a) Ez∧Q a):∃a,bO (Old w) w (f a) ((cs.drop off).take s)∧Q a:=by
 obtain⟨xs,n,_,hx,hl,hlen,hf⟩:=af5 ht h;cases hfi:fs[i]? with
 |none=>rw[hfi] at hi;cases hi
 |some fd =>
  rw[hfi] at hi;injection hi with hi
  injection hi with e1 e2
  have h1:=hf i fd hfi;have h2:i<xs.length:=by rw[hlen];exact(ach.1 hfi).1
  rw[abJ h2,e1,e2,hs] at h1;have ji:SizeOf.sizeOf xs[i].1<SizeOf.sizeOf x.1:=by rw[hx];have:=List.sizeOf_lt_of_mem (show xs[i].1∈xs.map (·.1) from aca.2 ⟨xs[i],acj h2,rfl⟩);show SizeOf.sizeOf xs[i].1<SizeOf.sizeOf (DataW.agg _);simp only[DataW.agg.sizeOf_spec];omega
  refine ho n _ _ ji h1 (fun q hq=>ou q ?_);rw[hx];simp only[DataW.weights,ht];refine DataW.weights_mem_each (j:=i) (t:=u) (d:=xs[i].1) ?_ ?_ q hq
  ·rw[abR,acB,hfi];exact aeI some e1
  ·rw[abR,abJ h2];rfl
theorem Rf{a:aq}(h:SZ a):qW a:=by
 obtain⟨h1,h2⟩:=h;have:reachBytes=140737488351232:=by decide
 exact⟨by omega,by omega⟩
abbrev QL{α:Type}(Q:α→Prop)(l:List α):Prop:=l.length<1152921504606846976∧∀a∈l,Q a
theorem qe:mc aV 22 (fun l:List aq=>[ae l]) (QL qW):=by intro H enc w base spare held fuel cs x h ou;obtain⟨l,h1,h0,h2⟩:=tQ (s:=3) (show aV.underlying 22=some (.slice 29) by kernel_rfl) (by kernel_rfl) (by omega) (sb:=56) (by kernel_rfl) (fun _=>rfl) vE enc w base spare held fuel cs x h ou;have:=Bk;exact⟨l,h1,by omega,fun a ha=>Rf (h2 a ha)⟩
theorem yI:mc aV 40 bn.cells (fun x=>qW x.t):=by intro H enc w base spare held fuel cs x h ou;obtain⟨fs,hu,e⟩:=kc (show ph (aV.underlying 40)=some [(29,0),(4,3)] by kernel_rfl);have hl:=j9 hu h;have hl:cs.length=3+1:=hl.trans (by kernel_rfl);obtain⟨a,r0,q0⟩:=dA hu h ou 0 0 3 (e 0) (by kernel_rfl) vE;obtain⟨b,r1,_⟩:=dA hu h ou 1 3 1 (e 1) (by kernel_rfl) (Bj (show aV.underlying 4=some .bool by kernel_rfl));refine⟨⟨a,b⟩,?_,Rf q0⟩;rw[Hm cs 3 1 hl];exact cO r0 r1
theorem FU:mc aV 42 bQ.cells (fun x=>qW x.GP.t∧qW x.out.t):=by intro H enc w base spare held fuel cs x h ou;obtain⟨fs,hu,e⟩:=kc (show ph (aV.underlying 42)=some [(40,0),(40,4)] by kernel_rfl);have hl:=j9 hu h;have hl:cs.length=4+4:=hl.trans (by kernel_rfl);obtain⟨a,r0,q0⟩:=dA hu h ou 0 0 4 (e 0) (by kernel_rfl) yI;obtain⟨b,r1,q1⟩:=dA hu h ou 1 4 4 (e 1) (by kernel_rfl) yI;refine⟨⟨a,b⟩,?_,q0,q1⟩;rw[Hm cs 4 4 hl];exact cO r0 r1
theorem FV:mc aV 23 (fun l:List bQ=>[an bQ.cells l]) (QL fun x=>qW x.GP.t∧qW x.out.t):=by intro H enc w base spare held fuel cs x h ou;obtain⟨l,h1,h0,h2⟩:=tQ (s:=8) (show aV.underlying 23=some (.slice 42) by kernel_rfl) (by kernel_rfl) (by omega) (sb:=128) (by kernel_rfl) (fun _=>rfl) FU enc w base spare held fuel cs x h ou;have:=Bk;exact⟨l,h1,by omega,h2⟩
theorem Rg{α:Type}(cs:List α)(h:cs.length=5):cs=(cs.drop 0).take 1++((cs.drop 1).take 1++((cs.drop 2).take 1++((cs.drop 3).take 1++(cs.drop 4).take 1))):=by
 match cs,h with
 |[_,_,_,_,_],_=>rfl
theorem xX:mc aV 25 aN.cells HC:=by intro H enc w base spare held fuel cs x h ou;obtain⟨fs,hu,e⟩:=kc (show ph (aV.underlying 25)=some [(22,0),(22,1),(22,2),(22,3),(23,4)] by kernel_rfl);have hl:=j9 hu h;have hl:cs.length=5:=hl.trans (by kernel_rfl);obtain⟨a,r0,q0⟩:=dA hu h ou 0 0 1 (e 0) (by kernel_rfl) qe;obtain⟨b,r1,q1⟩:=dA hu h ou 1 1 1 (e 1) (by kernel_rfl) qe;obtain⟨c,r2,q2⟩:=dA hu h ou 2 2 1 (e 2) (by kernel_rfl) qe;obtain⟨d,r3,q3⟩:=dA hu h ou 3 3 1 (e 3) (by kernel_rfl) qe;obtain⟨p,r4,q4⟩:=dA hu h ou 4 4 1 (e 4) (by kernel_rfl) FV;refine⟨⟨a,b,c,d,p⟩,?_,⟨q0,q1,q2,q3,q4⟩⟩;rw[Rg cs hl];exact cO r0 (cO r1 (cO r2 (cO r3 r4)))
theorem Rh{α:Type}(cs:List α)(h:cs.length=4):cs=(cs.drop (0*1)).take 1++((cs.drop (1*1)).take 1++((cs.drop (2*1)).take 1++(cs.drop (3*1)).take 1)):=by
 match cs,h with
 |[_,_,_,_],_=>rfl
theorem qf{P:Program}{t u:TypeId}{n:Nat}{α:Type}{f:α→List PV}{Q:α→Prop}(ht:P.underlying t=some (.array n u)){H:Type}{enc:TypeId×Value→H}{w:World}{base:Nat}{spare:Nat→Bool}{held:Bool}{fuel:Nat}{cs:List Value}{x:DataW H×List MemPlace}
  (h:DataW.trod enc P w base spare held fuel t cs=some x) (ou:∀n∈x.1.weights P t,n≤reachBytes) (i s:Nat) (hi:i<n) (hs:P.cellsOf u=s) (ho:mc P u f Q):∃a,bO (Old w) w (f a) ((cs.drop (i*s)).take s)∧Q a:=by
 obtain⟨xs,m,_,hx,hl,hlen,hf⟩:=DataW.trod_array ht h;have h1:=hf i hi;rw[abJ (by omega),hs] at h1;refine ho enc w base spare held m _ _ h1 (fun q hq=>ou q ?_);rw[hx];simp only[DataW.weights,ht];exact pY (aca.2 ⟨xs[i],acj (by omega),rfl⟩) hq
theorem BS:mc aV 26 ba.cells (fun _=>True):=by
 intro H enc w base spare held fuel cs x h ou;have hu:aV.underlying 26=some (.array 4 3):=by kernel_rfl
 have hl:cs.length=4:=(DataW.trod_array hu h).choose_spec.choose_spec.2.2.1.trans (by kernel_rfl);have oi:mc aV 3 (fun n:Int=>[.int .i64 n]) (fun n=>(Lit.int .i64 n).wf=true):=xJ (k := .i64) (show aV.underlying 3=some (.int .i64) by kernel_rfl);obtain⟨a,r0,_⟩:=qf hu h ou 0 1 (by omega) (by kernel_rfl) oi;obtain⟨b,r1,_⟩:=qf hu h ou 1 1 (by omega) (by kernel_rfl) oi;obtain⟨c,r2,_⟩:=qf hu h ou 2 1 (by omega) (by kernel_rfl) oi;obtain⟨d,r3,_⟩:=qf hu h ou 3 1 (by omega) (by kernel_rfl) oi;refine⟨⟨a,b,c,d⟩,?_,trivial⟩;rw[Rh cs hl];exact cO r0 (cO r1 (cO r2 r3))
theorem Cj:mc aV 31 bW.cells (fun x=>qW x.cost):=by intro H enc w base spare held fuel cs x h ou;obtain⟨fs,hu,e⟩:=kc (show ph (aV.underlying 31)=some [(26,0),(29,4)] by kernel_rfl);have hl:=j9 hu h;have hl:cs.length=4+3:=hl.trans (by kernel_rfl);obtain⟨a,r0,_⟩:=dA hu h ou 0 0 4 (e 0) (by kernel_rfl) BS;obtain⟨b,r1,q1⟩:=dA hu h ou 1 4 3 (e 1) (by kernel_rfl) vE;refine⟨⟨a,b⟩,?_,Rf q1⟩;rw[Hm cs 4 3 hl];exact cO r0 r1
theorem BT:mc aV 34 aI.cells HT:=by
 have key:∀N:Nat,∀{H:Type} (enc:TypeId×Value→H) (w:World) (base:Nat) (spare:Nat→Bool) (held:Bool) (fuel:Nat) (cs:List Value) (x:DataW H×List MemPlace),SizeOf.sizeOf x.1<N →
   DataW.trod enc aV w base spare held fuel 34 cs=some x→(∀n∈x.1.weights aV 34,n≤reachBytes)→∃a,bO (Old w) w (aI.cells a) cs∧HT a:=by
  intro N
  induction N with
  |zero=>intro H enc w base spare held fuel cs x h;omega
  |succ N ih =>
   intro H enc w base spare held fuel cs x hN h ou;obtain⟨fs,hu,e⟩:=kc (show ph (aV.underlying 34)=some [(3,0),(3,1),(32,2)] by kernel_rfl);have hl:=j9 hu h;have hl:cs.length=1+1+1:=hl.trans (by kernel_rfl);have oi:mc aV 3 (fun n:Int=>[.int .i64 n]) (fun n=>(Lit.int .i64 n).wf=true):=xJ (k := .i64) (show aV.underlying 3=some (.int .i64) by kernel_rfl);obtain⟨a,r0,_⟩:=dA hu h ou 0 0 1 (e 0) (by kernel_rfl) oi;obtain⟨b,r1,_⟩:=dA hu h ou 1 1 1 (e 1) (by kernel_rfl) oi;obtain⟨k,r2,k1,k2⟩:=Em (f:=fun l:List aI=>[PV.list (l.map aI.cells)]) (Q:=fun l=>l.length*40≤reachBytes∧∀t∈l,HT t) hu h ou 2 2 1 (e 2) (by kernel_rfl) (fun n Ez d hd h' UJ =>El (s:=3) (show aV.underlying 32=some (.slice 34) by kernel_rfl) (by kernel_rfl) (by omega) (sb:=40) (by kernel_rfl) (fun t=>yj t) h' UJ (fun n2 cs2 d2 Er h2 GD=>ih enc w base spare held n2 cs2 d2 (by omega) h2 GD))
   have:=Bk;refine⟨⟨a,b,k⟩,?_,.mk a b k (by omega) k2⟩;rw[K7 cs 1 1 1 hl];have r2':bO (Old w) w [PV.list (AS k)] ((cs.drop (1+1)).take 1):=by rw[wJ];exact r2
   exact cO r0 (cO r1 r2')
 intro H enc w base spare held fuel cs x h ou;exact key (SizeOf.sizeOf x.1+1) enc w base spare held fuel cs x (by omega) h ou
end Go.Proofs.YtneklnlpgfeplaaGreat.Sym
end
