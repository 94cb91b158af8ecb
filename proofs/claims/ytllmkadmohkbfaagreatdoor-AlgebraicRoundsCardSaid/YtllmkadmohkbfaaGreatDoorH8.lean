/- Lemmas for the statements of this seat. -/
import Derived.Test.YtllmkadmohkbfaaGreatDoorH7
import Derived.Test.YtllmkadmohkbfaaGreatDoorQ5
import Derived.Test.YtllmkadmohkbfaaGreatDoorChecked
import Derived.Shelf.Strings.BuilderX
import Derived.Shelf.Lays
import Derived.KernelRfl
import Derived.Test.YtllmkadmohkbfaaGreatDoorVObs
import Derived.Test.YtllmkadmohkbfaaGreatDoorU0
import Derived.Shelf.Strconv.Itoa3
import Derived.Shelf.Strings.OnBuilder
import Derived.Test.YtllmkadmohkbfaaGreatDoorH2
namespace Go.Proofs.YtllmkadmohkbfaaGreatDoor.Sym
open Go Path cP
set_option linter.unusedVariables false
structure Sh (a:aH):Prop where
 l:a.p.length≤6
 fp:lh 1 a.p
 g:pC 1 a.rV
def gZ(a:aH):Int:=if yq a.p≠0 then yq a.p else if (bE (bI a.p) (ak (bI a.p))).length≠1 then 2 else if qK (bI a.p) a.rV then 0 else 14
theorem Sh.sm{a:aH}(h:Sh a)(hc:yq a.p=0):Sm (bI a.p)∧bI a.p≠[]∧pq (bI a.p)=ae a.p∧a.p.length≠0∧py a.p=0:=by
 unfold yq at hc
 by_cases h0:py a.p=0
 ·rw[if_pos h0] at hc
  have hn:a.p.length≠0:=fun e=>by rw[if_pos e] at hc;exact absurd hc (by decide)
  have pl:(bI a.p).length=a.p.length:=by unfold bI;rw[List.length_map]
  have hl:=h.l
  exact⟨⟨MY h0,by omega,sl h.fp (by omega)⟩,fun e=>hn (by rw[←pl,e];rfl),by unfold pq;rw[JG (DA h0)],hn,h0⟩
 ·rw[if_neg h0] at hc;exact absurd hc h0
theorem NC{k m:Nat}{p:List af}(h:lh k p)(hk:k≤m):lh m p:=fun a ha=>⟨Nat.le_trans (h a ha).1 hk,Nat.le_trans (h a ha).2 hk⟩
theorem J8{k m:Nat}{r:ai}(h:pC k r)(hk:k≤m):pC m r:=⟨⟨Nat.le_trans h.1.1 hk,Nat.le_trans h.1.2 hk⟩,⟨Nat.le_trans h.2.1 hk,Nat.le_trans h.2.2 hk⟩⟩
theorem Qt:4*xB 8 70 (6+2)+10≤68719476736:=by decide
theorem rp.Check{a:aH}(h:Sh a):Cp 23 [a.pv] (bw (pc (gZ a))):=by
 have hc:=Hs.Check a.p (NC h.fp (by omega))
 unfold gZ
 by_cases he:yq a.p=0
 ·rw[if_neg (by omega)]
  obtain⟨S,p0,ep,hn,h0⟩:=h.sm he
  rw[h0] at hc
  have hl:=S.l
  have hd:=PQ.so (bI a.p) S.z (by omega) S.f (by omega)
  have cd:Ch 8 (ak (bI a.p)):=S.ch.derive (by omega)
  have W5:=zm (bI a.p)
  have hg:=PQ.Gcd (h:=7) (b:=8) (c:=70) (L:=6) (by omega) (by omega) (by omega) (by omega) (by omega) Qt (bI a.p) (ak (bI a.p)) S.z (bj _) S.l (by omega) S.ch cd
  rw[ep] at hd hg
  by_cases yI:(bE (bI a.p) (ak (bI a.p))).length≠1
  ·rw[if_pos yI]
   exact gD.e1 a _ _ hc hn hd hg (by rw[bJ];exact yI)
  ·rw[if_neg yI]
   have hi:=J0.yv (Az S p0) a.rV (J8 h.g (by omega))
   rw[ep] at hi
   cases hb:qK (bI a.p) a.rV with
   |true =>
    rw[hb] at hi
    exact gD.e3 a _ _ _ hc hn hd hg (by rw[bJ];omega) hi rfl
   |false =>
    rw[hb] at hi
    exact gD.e2 a _ _ _ hc hn hd hg (by rw[bJ];omega) hi rfl
 ·rw[if_pos he,jO he]
  unfold yq at he ⊢
  by_cases h0:py a.p=0
  ·rw[if_pos h0] at he ⊢
   rw[h0] at hc
   have hn:a.p.length=0:=Classical.byContradiction fun e=>he (if_neg e)
   rw[if_pos hn]
   exact gD.e0 a hc hn
  ·rw[if_neg h0]
   rw[jO h0] at hc
   exact gD.e7 a _ hc
theorem vY.Check{a:aH}(h:Sh a):Cp 24 [a.pv] (vI (gZ a)):=by
 have hc:=Fm.bad (p:=a.p) (NC h.fp (by omega))
 unfold gZ
 by_cases he:yq a.p=0
 ·rw[if_neg (by omega)]
  obtain⟨S,p0,ep,hn,h0⟩:=h.sm he
  have hl:=S.l
  have hd:=RQ.so (bI a.p) S.z (by omega) S.f (by omega)
  have cd:Ch 8 (ak (bI a.p)):=S.ch.derive (by omega)
  have W5:=zm (bI a.p)
  have hg:=RQ.Gcd (h:=7) (b:=8) (c:=70) (L:=6) (by omega) (by omega) (by omega) (by omega) (by omega) Qt (bI a.p) (ak (bI a.p)) S.z (bj _) S.l (by omega) S.ch cd
  rw[ep] at hd hg
  by_cases yI:(bE (bI a.p) (ak (bI a.p))).length≠1
  ·rw[if_pos yI]
   exact fM.e1 a _ _ _ _ _ hc he hd hg (by rw[bJ];exact yI)
  ·rw[if_neg yI]
   have hi:=Fm.yv (Az S p0) a.rV (J8 h.g (by omega))
   rw[ep] at hi
   cases hb:qK (bI a.p) a.rV with
   |true =>
    rw[hb] at hi
    exact fM.e3 a _ _ _ _ _ _ _ hc he hd hg (by rw[bJ];omega) hi rfl
   |false =>
    rw[hb] at hi
    exact fM.e2 a _ _ _ _ _ _ _ hc he hd hg (by rw[bJ];omega) hi rfl
 ·rw[if_pos he]
  exact fM.e0 a _ hc he
structure Acc (a:aH) (f:List Rat) (lo hi:Rat):Prop where
 e:a=dN f lo hi
 sm:Sm f
 wa:dW f lo hi
 h1:ht lo≤1
 h2:ht hi≤1
theorem Sh.acc{a:aH}(h:Sh a)(hc:gZ a=0):Acc a (bI a.p) (loG a.rV) (hiG a.rV):=by
 unfold gZ at hc
 have he:yq a.p=0:=Classical.byContradiction fun e=>by rw[if_pos e] at hc;exact e hc
 rw[if_neg (by omega)] at hc
 have yI:(bE (bI a.p) (ak (bI a.p))).length=1:=Classical.byContradiction fun e=>by rw[if_pos e] at hc;exact absurd hc (by decide)
 rw[if_neg (by omega)] at hc
 have hb:qK (bI a.p) a.rV=true:=Classical.byContradiction fun e=>by rw[if_neg e] at hc;exact absurd hc (by decide)
 obtain⟨S,p0,ep,hn,h0⟩:=h.sm he
 unfold qK at hb
 rw[Bool.and_eq_true] at hb
 obtain⟨v1,v2,v3⟩:=xn hb.1
 have Ho:loG a.rV=a.rV.lo.val:=by unfold loG;rw[hb.1,cond_true]
 have T7:hiG a.rV=a.rV.hi.val:=by unfold hiG;rw[hb.1,cond_true]
 refine⟨?_,S,IK S.z p0 (vQ S.z (bj _) yI) (by rw[Ho,T7];exact v3) hb.2,by rw[Ho];exact dU h.g.1.1 h.g.1.2 (by omega),by rw[T7];exact dU h.g.2.1 h.g.2.2 (by omega)⟩
 unfold dN
 rw[Ce hb.1,JG (DA h0)]
theorem Acc.bd{a:aH}{f:List Rat}{lo hi:Rat}(h:Acc a f lo hi):ab lo≤twP 32∧ab hi≤twP 32:=by
 have b1:=B8 lo
 have b2:=B8 hi
 exact⟨Rat.le_trans b1 (bx (by have:=h.h1;omega)),Rat.le_trans b2 (bx (by have:=h.h2;omega))⟩
theorem ND{f g:List Rat}{lo hi lo' hi':Rat}{a b:aH}(A:Acc a f lo hi)(B:Acc b g lo' hi'){N:Nat}(hN:1952809344+18373318+437644+2≤N):∃s,KZ f g (N+237+33+1) lo hi lo' hi'=some s:=by
 unfold KZ
 cases he:rp.Qq f lo hi g lo' hi' with
 |true=>exact⟨0,rfl⟩
 |false =>
  rw[cond_false]
  have di:¬Fk f lo hi g lo' hi':=fun e=>by rw[(rp.E7 A.wa B.wa).2 e] at he;cases he
  obtain⟨r,hr⟩:=IJ A.sm B.sm A.wa B.wa di A.bd.1 A.bd.2 B.bd.1 B.bd.2 hN
  rw[hr]
  exact⟨_,rfl⟩
theorem Px{N:Nat}(hN:N=2000000000):1952809344+18373318+437644+2≤N∧(N+237+33)/32≤70000000:=by omega
theorem rp.Sr{f g:List Rat}{lo hi lo' hi':Rat}{a b:aH}(A:Acc a f lo hi)(B:Acc b g lo' hi'):∃s,Cp 96 [a.pv,b.pv] (.aB [vI s,.az])∧((s=0∧Fk f lo hi g lo' hi')∨(s = -1∧GN f lo hi g lo' hi')∨(s=1∧GN g lo' hi' f lo hi)):=by
 obtain⟨N,hN⟩:∃N:Nat,N=2000000000:=⟨_,rfl⟩
 obtain⟨n1,n2⟩:=Px hN
 obtain⟨s,hs⟩:=ND A B n1
 have s1:=sj hi lo
 have s2:=sj hi' lo'
 have a1:=A.h1
 have a2:=A.h2
 have b1:=B.h1
 have b2:=B.h2
 refine⟨s,?_,K0 A.wa B.wa hs⟩
 rw[A.e,B.e]
 exact rp.cmp (K:=N+237+33) A.sm B.sm A.wa B.wa (by omega) (by omega) hs
theorem rp.o9{a b:aH}(ha:Sh a)(hb:Sh b)(h1:gZ a=0)(h2:gZ b=0):∃s,Cp 35 [a.pv,b.pv] (.aB [vI s,.az])∧((s=0∧Fk (bI a.p) (loG a.rV) (hiG a.rV) (bI b.p) (loG b.rV) (hiG b.rV))∨(s = -1∧GN (bI a.p) (loG a.rV) (hiG a.rV) (bI b.p) (loG b.rV) (hiG b.rV))∨(s=1∧GN (bI b.p) (loG b.rV) (hiG b.rV) (bI a.p) (loG a.rV) (hiG a.rV))):=by
 obtain⟨s,hs,hm⟩:=rp.Sr (ha.acc h1) (hb.acc h2)
 have c1:=rp.Check ha
 have c2:=rp.Check hb
 rw[h1] at c1
 rw[h2] at c2
 exact⟨s,eJ.e0 a b (eJ.l10 0 a b a (by omega) rfl c1 (by omega) (eJ.l10 1 a b b (by omega) rfl c2 (by omega) (eJ.kM 2 a b s none (by omega) hs))),hm⟩
theorem rp.Ss{a b:aH}(ha:Sh a)(hb:Sh b)(h:(if gZ a≠0 then gZ a else gZ b)≠0):Cp 35 [a.pv,b.pv] (.aB [vI 0,bw (some (if gZ a≠0 then gZ a else gZ b))]):=by
 have c1:=rp.Check ha
 have c2:=rp.Check hb
 by_cases h1:gZ a=0
 ·rw[if_neg (by omega)] at h ⊢
  rw[h1] at c1
  rw[jO h] at c2
  exact eJ.e0 a b (eJ.l10 0 a b a (by omega) rfl c1 (by omega) (eJ.cR 1 a b b _ (by omega) rfl c2))
 ·rw[if_pos h1]
  rw[jO h1] at c1
  exact eJ.e0 a b (eJ.cR 0 a b a _ (by omega) rfl c1)
theorem Wd.XH{p:List Rat}(P:Wd p):py (p.map aJ)=0:=fj P.z (by have:=P.l;omega)
end Go.Proofs.YtllmkadmohkbfaaGreatDoor.Sym
namespace Go.Proofs.YtllmkadmohkbfaaGreatDoor.Sym.S5
open Go Go.Shelf Go.Proofs
set_option maxRecDepth 20000
def sV:Ren:=⟨fun n=>match n with|129=>301|156=>217|165=>265|166=>266|169=>268|171=>215|240=>290|241=>291|243=>262|246=>286|276=>298|277=>299|283=>294|284=>295|285=>296|286=>297|317=>300|318=>302|319=>303|320=>304|337=>305|338=>306|n=>n,
 fun n=>match n with|0=>0|2=>2|3=>3|4=>4|5=>5|9=>9|20=>20|31=>224|37=>256|46=>179|51=>119|53=>178|70=>255|72=>258|75=>34|76=>59|80=>262|127=>273|164=>280|171=>275|173=>278|212=>285|213=>286|232=>289|233=>290|n=>n,
 fun n=>match n with|17=>0|18=>2|19=>3|n=>n⟩
theorem J9:Lays.n156 Tryz.prog sV where
 mixed:=by kernel_rfl
 f156:=Tryz.func217.trans (congrArg some (by kernel_rfl))
 f165:=Tryz.func265.trans (congrArg some (by kernel_rfl))
 f166:=Tryz.func266.trans (congrArg some (by kernel_rfl))
 f169:=Tryz.func268.trans (congrArg some (by kernel_rfl))
 f240:=Tryz.func290.trans (congrArg some (by kernel_rfl))
 f241:=Tryz.func291.trans (congrArg some (by kernel_rfl))
 f276:=Tryz.func298.trans (congrArg some (by kernel_rfl))
 f277:=Tryz.func299.trans (congrArg some (by kernel_rfl))
 t0:=Tryz.underlying0
 a0:=Tryz.isAgg0
 z0:=Tryz.sizeOf0
 v0:=Tryz.zeroValue0
 t3:=Tryz.underlying3
 a3:=Tryz.isAgg3
 z3:=Tryz.sizeOf3
 v3:=Tryz.zeroValue3
 t4:=Tryz.underlying4
 a4:=Tryz.isAgg4
 z4:=Tryz.sizeOf4
 v4:=Tryz.zeroValue4
 t9:=Tryz.underlying9
 a9:=Tryz.isAgg9
 z9:=Tryz.sizeOf9
 v9:=Tryz.zeroValue9
 t20:=Tryz.underlying20
 a20:=Tryz.isAgg20
 z20:=Tryz.sizeOf20
 v20:=Tryz.zeroValue20
 t31:=Tryz.underlying224
 a31:=Tryz.isAgg224
 z31:=Tryz.sizeOf224
 v31:=Tryz.zeroValue224
 t37:=Tryz.underlying256
 a37:=Tryz.isAgg256
 z37:=Tryz.sizeOf256
 v37:=Tryz.zeroValue256
 t70:=Tryz.underlying255
 a70:=Tryz.isAgg255
 z70:=Tryz.sizeOf255
 v70:=Tryz.zeroValue255
 t72:=Tryz.underlying258
 a72:=Tryz.isAgg258
 z72:=Tryz.sizeOf258
 v72:=Tryz.zeroValue258
 t75:=Tryz.underlying34
 a75:=Tryz.isAgg34
 z75:=Tryz.sizeOf34
 v75:=Tryz.zeroValue34
 t76:=Tryz.underlying59
 a76:=Tryz.isAgg59
 z76:=Tryz.sizeOf59
 v76:=Tryz.zeroValue59
 t127:=Tryz.underlying273
 a127:=Tryz.isAgg273
 z127:=Tryz.sizeOf273
 v127:=Tryz.zeroValue273
 t164:=Tryz.underlying280
 a164:=Tryz.isAgg280
 z164:=Tryz.sizeOf280
 v164:=Tryz.zeroValue280
theorem Py:Lays.n171 Tryz.prog sV where
 mixed:=by kernel_rfl
 f129:=Tryz.func301.trans (congrArg some (by kernel_rfl))
 f171:=Tryz.func215.trans (congrArg some (by kernel_rfl))
 f243:=Tryz.func262.trans (congrArg some (by kernel_rfl))
 f246:=Tryz.func286.trans (congrArg some (by kernel_rfl))
 f283:=Tryz.func294.trans (congrArg some (by kernel_rfl))
 f284:=Tryz.func295.trans (congrArg some (by kernel_rfl))
 f285:=Tryz.func296.trans (congrArg some (by kernel_rfl))
 f286:=Tryz.func297.trans (congrArg some (by kernel_rfl))
 f317:=Tryz.func300.trans (congrArg some (by kernel_rfl))
 f318:=Tryz.func302.trans (congrArg some (by kernel_rfl))
 f319:=Tryz.func303.trans (congrArg some (by kernel_rfl))
 f320:=Tryz.func304.trans (congrArg some (by kernel_rfl))
 f337:=Tryz.func305.trans (congrArg some (by kernel_rfl))
 f338:=Tryz.func306.trans (congrArg some (by kernel_rfl))
 t0:=Tryz.underlying0
 a0:=Tryz.isAgg0
 z0:=Tryz.sizeOf0
 v0:=Tryz.zeroValue0
 t2:=Tryz.underlying2
 a2:=Tryz.isAgg2
 z2:=Tryz.sizeOf2
 v2:=Tryz.zeroValue2
 t3:=Tryz.underlying3
 a3:=Tryz.isAgg3
 z3:=Tryz.sizeOf3
 v3:=Tryz.zeroValue3
 t4:=Tryz.underlying4
 a4:=Tryz.isAgg4
 z4:=Tryz.sizeOf4
 v4:=Tryz.zeroValue4
 t5:=Tryz.underlying5
 a5:=Tryz.isAgg5
 z5:=Tryz.sizeOf5
 v5:=Tryz.zeroValue5
 t9:=Tryz.underlying9
 a9:=Tryz.isAgg9
 z9:=Tryz.sizeOf9
 v9:=Tryz.zeroValue9
 t20:=Tryz.underlying20
 a20:=Tryz.isAgg20
 z20:=Tryz.sizeOf20
 v20:=Tryz.zeroValue20
 t37:=Tryz.underlying256
 a37:=Tryz.isAgg256
 z37:=Tryz.sizeOf256
 v37:=Tryz.zeroValue256
 t46:=Tryz.underlying179
 a46:=Tryz.isAgg179
 z46:=Tryz.sizeOf179
 v46:=Tryz.zeroValue179
 t51:=Tryz.underlying119
 a51:=Tryz.isAgg119
 z51:=Tryz.sizeOf119
 v51:=Tryz.zeroValue119
 t53:=Tryz.underlying178
 a53:=Tryz.isAgg178
 z53:=Tryz.sizeOf178
 v53:=Tryz.zeroValue178
 t171:=Tryz.underlying275
 a171:=Tryz.isAgg275
 z171:=Tryz.sizeOf275
 v171:=Tryz.zeroValue275
 t173:=Tryz.underlying278
 a173:=Tryz.isAgg278
 z173:=Tryz.sizeOf278
 v173:=Tryz.zeroValue278
 t212:=Tryz.underlying285
 a212:=Tryz.isAgg285
 z212:=Tryz.sizeOf285
 v212:=Tryz.zeroValue285
 t213:=Tryz.underlying286
 a213:=Tryz.isAgg286
 z213:=Tryz.sizeOf286
 t232:=Tryz.underlying289
 a232:=Tryz.isAgg289
 z232:=Tryz.sizeOf289
 v232:=Tryz.zeroValue289
 t233:=Tryz.underlying290
 a233:=Tryz.isAgg290
 z233:=Tryz.sizeOf290
 v233:=Tryz.zeroValue290
 g17:=by kernel_rfl
 g18:=by kernel_rfl
 g19:=by kernel_rfl
theorem extra:Builder.Extra Tryz.prog sV where
 sizeBuilder:=by kernel_rfl
 liesBuilder:=by kernel_rfl
 t5:=Tryz.underlying5
 a5:=Tryz.isAgg5
 z5:=Tryz.sizeOf5
 v5:=Tryz.zeroValue5
 infoByte:=by kernel_rfl
 cellsByte:=by kernel_rfl
 sizeByte:=by kernel_rfl
 neB5:=by decide
end Go.Proofs.YtllmkadmohkbfaaGreatDoor.Sym.S5
namespace Go.Proofs.YtllmkadmohkbfaaGreatDoor.Sym
open Go Go.RowKit
set_option linter.unusedVariables false
theorem nm.mk' {P : Program} {f : FuncId} {fn : Func} (h : P.funcs[f]? = some fn) (hb : (fn.body.isSome && !(fn.name == "runtime.NumGoroutine")) = true) : nm P f := by
  rw [Bool.and_eq_true, Bool.not_eq_true'] at hb
  exact ⟨fn, h, hb.1, hb.2⟩
theorem fH.Ka{P:Program}{f:FuncId}{args:List PV}{r:PV}(hc:nm P f)
  (h:∀(I:Nat→Prop) (w:World) (vs:Array Value),(∀b,I b→b<w.heap.size)→args.length=vs.size →
   (∀(j:Nat) p v,args[j]? = some p→vs[j]? = some v→Rd I w p v) →
   Calls P f vs w (fun e w'=>∃v,e = .returned v∧Rd (fun b=>I b∨fresh w w' b) w' r v∧Below w.heap.size w w')):fH P f args r:=by
 refine⟨hc,fun I w β vs hI _ hl hr=>(h I w vs hI (by simpa using hl) (fun j p v hp hv=>hr j (.pv p) v (by rw[List.getElem?_map,hp];rfl) hv)).mono ?_⟩
 rintro e w' ⟨v,he,hv,hb⟩
 refine⟨v,β,he,fun _ _ _=>rfl,ll.FD ⟨hb,fun s=>by unfold Vr at s;exact s.elim⟩,tW _ _ _,?_,fun x b hx=>absurd hx rG⟩
 exact Rd.mono hv (fun b hb=>hb.imp id (fun hf=>⟨Or.inl hf,(fun x hx=>absurd hx rG)⟩)) (fun _ _ _=>rfl)
theorem Pz{I:Nat→Prop}{w:World}{k:IntKind}{n:Int}{v:Value}(h:Rd I w (.int k n) v):v = .int k n:=by cases h;rfl
theorem Kb{I:Nat→Prop}{w:World}{s:ByteArray}{v:Value}(h:Rd I w (.str s) v):v = .string s:=by cases h;rfl
def dig(n:Nat):ByteArray:=⟨(Lib.decDigits n).toArray⟩
theorem IP(n:Nat)(h:n<100):Cp 215 [vI (n:Int)] (.str (dig n)):=by
 refine fH.Ka (nm.mk' Tryz.func215 (by kernel_rfl)) (fun I w vs hI hl hr => ?_)
 obtain⟨v,rfl⟩:∃v,vs = #[v]:=by
  match vs,hl with
  |⟨[v]⟩,_=>exact⟨v,rfl⟩
 have hv:=Pz (hr 0 _ v rfl rfl)
 subst hv
 refine Calls.mono (Any.strconv_Itoa_small S5.Py n h w) ?_
 rintro e w' ⟨he,rfl⟩
 exact⟨_,he,.str _,Below.refl _ _⟩
def NG(l:List ByteArray)(sep:ByteArray):ByteArray:=⟨(Lib.join (l.map (·.data.toList)) sep.data.toList).toArray⟩
theorem XI(l:List ByteArray)(sep:ByteArray)(hn:l.length≤140737488355328)(hlen:(Lib.join (l.map (·.data.toList)) sep.data.toList).length≤140737488355328) :
  Cp 217 [dj jX l,.str sep] (.str (NG l sep)):=by
 refine fH.Ka (nm.mk' Tryz.func217 (by kernel_rfl)) (fun I w vs hI hl hr => ?_)
 obtain⟨v,u,rfl⟩:∃v u,vs = #[v,u]:=by
  match vs,hl with
  |⟨[v,u]⟩,_=>exact⟨v,u,rfl⟩
 have hu:=Kb (hr 1 _ u rfl rfl)
 subst hu
 have hv:Rd I w (.list (l.map jX)) v:=hr 0 _ v rfl rfl
 cases l with
 |nil =>
  have:∃a c,v = .slice a 0 c:=by
   generalize hx:(PV.list (([]:List ByteArray).map jX))=x at hv
   cases hv with
   |nil a c=>exact⟨a,c,rfl⟩
   |list xs b o c s f hc hb hs ho h =>
    injection hx with hx
    subst hx
    exact⟨_,c,rfl⟩
   |_=>cases hx
  obtain⟨a,c,rfl⟩:=this
  refine Calls.mono (Any.strings_Join_none S5.J9 S5.extra a c sep w) ?_
  rintro e w' ⟨he,rfl⟩
  exact⟨_,he,.str _,Below.refl _ _⟩
 |cons x0 r =>
  have:∃b o c,v = .slice (some ⟨b,o,none⟩) (x0::r).length c∧(x0::r).length≤c∧I b∧∀(j:Nat) x,(x0::r)[j]? = some x→w.cell? ⟨b,o+j,none⟩=some (.string x):=by
   generalize hx:(PV.list ((x0::r).map jX))=x at hv
   cases hv with
   |list xs b o c s f hc hb hs ho h =>
    injection hx with hx
    subst hx
    have Sl:s=1:=by
     have:=hs 0 _ rfl
     simpa[jX] using this.symm
    subst Sl
    refine⟨b,o,c,by rw[List.length_map],by simpa using hc,hb,fun j x hj => ?_⟩
    have xK:((x0::r).map jX)[j]? = some (jX x):=by rw[List.getElem?_map,hj];rfl
    have h1:=(ho j 0 _ (.str x) xK rfl).2
    have h2:=Kb (h j 0 _ (.str x) xK rfl)
    rw[h2] at h1
    simpa using h1
   |_=>cases hx
  obtain⟨b,o,c,rfl,hc,hb,MB⟩:=this
  refine Calls.mono (Any.strings_Join S5.J9 S5.extra b o c (x0::r) sep w MB (hI b hb) hn hc hlen) ?_
  rintro e w' ⟨he,hw⟩
  exact⟨_,he,.str _,hw⟩
end Go.Proofs.YtllmkadmohkbfaaGreatDoor.Sym
namespace Go.Proofs.YtllmkadmohkbfaaGreatDoor.Sym
open Go Path cP
set_option linter.unusedVariables false
def numT(n:Int):ByteArray:=if n<0 then ByteArray.mk #[45]++dig n.natAbs else dig n.natAbs
def ratT(q:Rat):ByteArray:=if (q.den:Int)=1 then numT q.num else numT q.num++ByteArray.mk #[47]++numT (q.den:Int)
theorem uC{n:Nat}(h:n<10):dig n=ByteArray.mk #[UInt8.ofNat (48+n)]:=by
 unfold dig
 rw[Lib.decDigits,dif_pos h]
theorem Hd{n:Nat}(h:n<1000000000):(dig n).size≤10:=by
 have key:∀(k n:Nat),n<10^(k+1)→(Lib.decDigits n).length≤k+1:=by
  intro k
  induction k with
  |zero =>
   intro n h
   rw[Lib.decDigits,dif_pos (by omega)]
   exact Nat.le_refl _
  |succ k ih =>
   intro n h
   by_cases h9:n<10
   ·rw[Lib.decDigits,dif_pos h9];simp
   ·rw[Lib.decDigits,dif_neg h9,List.length_append,List.length_singleton]
    have:=ih (n/10) (by rw[Nat.pow_succ] at h;omega)
    omega
 have:=key 8 n (by omega)
 show(Lib.decDigits n).toArray.size≤10
 rw[List.size_toArray]
 omega
theorem join_one(x sep:ByteArray):NG [x] sep=x:=by
 unfold NG
 rw[List.map_cons,List.map_nil,Lib.join_one]
theorem DU{n:Int}(h:n.natAbs<1000000000):(numT n).size≤11:=by
 have:=Hd h
 unfold numT
 split
 ·rw[ByteArray.size_append]
  have e:(ByteArray.mk #[45]).size=1:=rfl
  omega
 ·omega
namespace Vo
theorem Uy(n:Int)(h:n.natAbs<1000000000)(hI:n≠0→Cp 215 [vI (n.natAbs:Int)] (.str (dig n.natAbs))):Cp 129 [(whole n).pv] (.str (numT n)):=by
 have hl:(words n.natAbs).length≤1:=e9 (by omega)
 have rE:Fit (whole n).cD:=by
  show Fit (words n.natAbs)
  unfold Fit
  omega
 have hm:=cP.cD (whole n) rE
 have hn:=cP.neg (whole n) rE
 rw[aw] at hm hn
 by_cases h0:n=0
 ·subst h0
  have e:numT 0=ByteArray.mk #[48]:=by
   unfold numT
   rw[if_neg (by omega),show Int.natAbs 0=0 from rfl,uC (by omega)];rfl
  rw[e]
  exact iM.e0 _ _ hm rfl
 ·have hw:(words n.natAbs).length≠0:=fun e=>h0 (by have:=dK.1 e;omega)
  have hs:=cP.short (words n.natAbs) (1000000000:UInt32) (by omega) (by decide)
  rw[aD,show(1000000000:UInt32).toNat=1000000000 from rfl,Nat.div_eq_of_lt h,Nat.mod_eq_of_lt h,fF] at hs
  have hv:(UInt32.ofNat n.natAbs).toNat=n.natAbs:=by
   rw[ue]
   exact Nat.mod_eq_of_lt (by omega)
  have hi:Cp 215 [vI ((UInt32.ofNat n.natAbs).toNat:Int)] (.str (dig n.natAbs)):=by
   rw[hv];exact hI h0
  have hd:=Hd h
  have hj:=XI [dig n.natAbs] (ByteArray.mk #[]) (by simp) (by
   rw[List.map_cons,List.map_nil,Lib.join_one,Array.length_toList]
   have:(dig n.natAbs).data.size=(dig n.natAbs).size:=rfl
   omega)
  rw[join_one] at hj
  have hN:iM.ah [] [dig n.natAbs] (whole n) (.str (numT n)):=by
   by_cases tG:n<0
   ·have:=iM.kM [] _ _ _ _ (by simp) hj hn (decide_eq_true tG) (by
     have e:(ByteArray.mk #[45]).size=1:=rfl
     omega)
    unfold numT
    rw[if_pos tG]
    exact this
   ·have:=iM.tq [] _ _ _ _ (by simp) hj hn (decide_eq_false tG)
    unfold numT
    rw[if_neg tG]
    exact this
  exact iM.e1 _ _ hm hw (iM.cR _ [] _ _ _ _ (by omega) hs hi (by simp) (by simp) hN)
theorem zw(n:Int)(h:n.natAbs<100):Cp 129 [(whole n).pv] (.str (numT n)):=Uy n (by omega) (fun _=>IP _ h)
theorem Uz(q:Rat)(h1:q.num.natAbs<1000000000)(h2:q.den<1000000000)(hN:Cp 129 [(whole q.num).pv] (.str (numT q.num)))(hD:Cp 129 [(whole (q.den:Int)).pv] (.str (numT (q.den:Int)))):Cp 61 [(aJ q).pv] (.str (ratT q)):=by
 have l1:wl q.num≤1:=e9 (by omega)
 have l2:wl (q.den:Int)≤1:=e9 (by rw[Int.natAbs_natCast];omega)
 have hh:ht q≤1:=Nat.max_le.2 ⟨l1,l2⟩
 have hp:=um.jN (aJ q) (iS (by omega))
 rw[bl] at hp
 have hc:=cP.o9 (whole (q.den:Int)) (whole 1) (show Fit (whole (q.den:Int)).cD from Nat.le_trans l2 (by omega)) (by decide)
 rw[aw,aw] at hc
 have s1:=DU h1
 have s2:=DU (n:=(q.den:Int)) (by rw[Int.natAbs_natCast];exact h2)
 by_cases hd:(q.den:Int)=1
 ·have:=qH.e0 _ _ _ _ _ _ hp um.one hc (by rw[hd];rfl) hN
  unfold ratT
  rw[if_pos hd]
  exact this
 ·have e:(ByteArray.mk #[47]).size=1:=rfl
  have Am:dR (q.den:Int) 1≠0:=by
   unfold dR
   intro hx
   split at hx
   ·cases hx
   ·omega
  have:=qH.e1 _ _ _ _ _ _ _ hp um.one hc Am hN (by omega) hD (by rw[ByteArray.size_append];omega)
  unfold ratT
  rw[if_neg hd]
  exact this
theorem tT(q:Rat)(h1:q.num.natAbs<100)(h2:q.den<100):Cp 61 [(aJ q).pv] (.str (ratT q)) :=
 Uz q (by omega) (by omega) (zw _ h1) (zw _ (by rw[Int.natAbs_natCast];exact h2))
end Vo
namespace Qu
theorem of(l:List Int)(h:∀n∈l,ax n)(hl:l.length≤1000):Cp 59 [dj gL l] (pq (l.map (fun n=>((n:Int):Rat)))):=by
 have loop:∀d t:Nat,l.length-t=d→t≤l.length→iv.ah (((l.take t).map (fun n=>((n:Int):Rat))).map aJ) l t (pq (l.map (fun n=>((n:Int):Rat)))):=by
  intro d
  induction d with
  |zero =>
   intro t hd ht
   have:t=l.length:=by omega
   subst this
   rw[List.take_length]
   exact iv.cR _ _ _ (Nat.le_refl _)
  |succ d ih =>
   intro t hd ht
   obtain⟨v,hv⟩:∃v,l[t]? = some v:=⟨_,List.getElem?_eq_getElem (by omega)⟩
   have:=ih (t+1) (by omega) (by omega)
   rw[List.take_add_one,hv] at this
   refine iv.l10 _ l t v (aJ ((v:Int):Rat)) (by omega) hv (uo.Of v (h v (List.mem_of_getElem? hv))) ?_ (by omega) ?_
   ·rw[List.length_append,List.length_map,List.length_map,List.length_take,List.length_singleton];omega
   ·simpa using this
 exact iv.e0 l (loop _ 0 rfl (by omega))
def Lo(a:af):Prop:=a.num.length≤1∧a.den.length≤1∧nat a.num≤1000∧nat a.den≤1000
theorem Kc{l:Words}{v:UInt32}(hl:l.length<2)(h:l[0]? = some v):nat l=v.toNat:=by
 match l,hl,h with
 |[w],_,h=>simp at h;subst h;simp[nat]
theorem Ct{l:Words}(h:l.length=0):nat l=0:=by rw[List.eq_nil_of_length_eq_zero h];rfl
theorem low(x:af):∃b,Cp 74 [x.pv,vW 1000,vW 1000] (vB b)∧(b=true→Lo x):=by
 have e:(1000:UInt32).toNat=1000:=rfl
 by_cases h1:x.num.length<2
 ·by_cases h2:x.den.length<2
  ·have den:nat x.num≤1000→∀v u:UInt32,x.den[0]? = some u→decide (u.toNat≤(1000:UInt32).toNat)=true→Lo x:=fun h v u hu hd=>⟨by omega,by omega,h,by rw[Kc h2 hu];have:=of_decide_eq_true hd;omega⟩
   by_cases h3:x.num.length=0
   ·have hn:nat x.num≤1000:=by rw[Ct h3];omega
    by_cases h4:x.den.length=0
    ·exact⟨_,dM.e0 x _ _ h1 h2 h3 h4,fun _=>⟨by omega,by omega,hn,by rw[Ct h4];omega⟩⟩
    ·obtain⟨v,hv⟩:∃v,x.den[0]? = some v:=⟨_,List.getElem?_eq_getElem (by omega)⟩
     exact⟨_,dM.e1 x _ _ v h1 h2 h3 h4 hv,fun h=>den hn v v hv (by have h':=of_decide_eq_true h;exact decide_eq_true (by omega))⟩
   ·obtain⟨v,hv⟩:∃v,x.num[0]? = some v:=⟨_,List.getElem?_eq_getElem (by omega)⟩
    by_cases h5:v.toNat≤(1000:UInt32).toNat
    ·have hn:nat x.num≤1000:=by rw[Kc h1 hv];omega
     by_cases h4:x.den.length=0
     ·exact⟨_,dM.e2 x _ _ v h1 h2 h3 hv h5 h4,fun _=>⟨by omega,by omega,hn,by rw[Ct h4];omega⟩⟩
     ·obtain⟨u,hu⟩:∃v,x.den[0]? = some v:=⟨_,List.getElem?_eq_getElem (by omega)⟩
      exact⟨_,dM.e3 x _ _ v u h1 h2 h3 hv h5 h4 hu,fun h=>den hn v u hu (by have h':=of_decide_eq_true h;exact decide_eq_true (by omega))⟩
    ·exact⟨_,dM.e4 x _ _ v h1 h2 h3 hv (by omega),fun h=>by cases h⟩
  ·exact⟨_,dM.e5 x _ _ h1 (by omega),fun h=>by cases h⟩
 ·exact⟨_,dM.e6 x _ _ (by omega),fun h=>by cases h⟩
theorem short(l:List af):∃b,Cp 20 [ae l] (vB b)∧(b=true→l.length≤6∧∀a∈l,Lo a):=by
 by_cases h6:l.length≤6
 ·have loop:∀d t:Nat,l.length-t=d→∃b,dI.ah l t (vB b)∧(b=true→∀a∈l.drop t,Lo a):=by
   intro d
   induction d with
   |zero=>intro t hd;exact⟨true,dI.kM l t (by omega),fun _=>by rw[List.drop_of_length_le (by omega)];intro a ha;cases ha⟩
   |succ d ih =>
    intro t hd
    obtain⟨v,hv⟩:∃v,l[t]? = some v:=⟨_,List.getElem?_eq_getElem (by omega)⟩
    obtain⟨b1,h1,h2⟩:=low v
    cases b1 with
    |false=>exact⟨false,dI.l10 l t v _ (by omega) hv h1 rfl,fun h=>by cases h⟩
    |true =>
     obtain⟨b,g1,g2⟩:=ih (t+1) (by omega)
     refine⟨b,dI.cR l t v _ (by omega) hv h1 rfl (by omega) g1,fun h a ha => ?_⟩
     rw[drop_cons hv] at ha
     rcases List.mem_cons.1 ha with rfl|ha
     ·exact h2 rfl
     ·exact g2 h a ha
  obtain⟨b,h1,h2⟩:=loop _ 0 rfl
  rw[List.drop_zero] at h2
  exact⟨b,dI.e1 l h6 h1,fun h=>⟨h6,h2 h⟩⟩
 ·exact⟨false,dI.e0 l (by omega),fun h=>by cases h⟩
theorem small(l:List aH)(hl:l.length≤1000):∃b,Cp 11 [dj aH.cells l] (vB b)∧(b=true→∀a∈l,Sh a∧(∀x∈a.p,Lo x)∧Lo a.rV.lo∧Lo a.rV.hi):=by
 have loop:∀d t:Nat,l.length-t=d→∃b,dJ.ah l t (vB b)∧(b=true→∀a∈l.drop t,Sh a∧(∀x∈a.p,Lo x)∧Lo a.rV.lo∧Lo a.rV.hi):=by
  intro d
  induction d with
  |zero=>intro t hd;exact⟨true,dJ.tq l t (by omega),fun _=>by rw[List.drop_of_length_le (by omega)];intro a ha;cases ha⟩
  |succ d ih =>
   intro t hd
   obtain⟨v,hv⟩:∃v,l[t]? = some v:=⟨_,List.getElem?_eq_getElem (by omega)⟩
   obtain⟨b1,h1,h2⟩:=short v.p
   cases b1 with
   |false=>exact⟨false,dJ.l10 l t v _ (by omega) hv h1 rfl,fun h=>by cases h⟩
   |true =>
    obtain⟨b2,k1,k2⟩:=short [v.rV.lo,v.rV.hi]
    cases b2 with
    |false=>exact⟨false,dJ.cR l t v _ _ (by omega) hv h1 rfl k1 rfl,fun h=>by cases h⟩
    |true =>
     obtain⟨b,g1,g2⟩:=ih (t+1) (by omega)
     refine⟨b,dJ.kM l t v _ _ (by omega) hv h1 rfl k1 rfl (by omega) g1,fun h a ha => ?_⟩
     rw[drop_cons hv] at ha
     rcases List.mem_cons.1 ha with rfl|ha
     ·obtain⟨p1,p2⟩:=h2 rfl
      obtain⟨q1,q2⟩:=k2 rfl
      have lo:=q2 a.rV.lo (by simp)
      have hi:=q2 a.rV.hi (by simp)
      exact⟨⟨p1,fun x hx=>⟨(p2 x hx).1,(p2 x hx).2.1⟩,⟨lo.1,lo.2.1⟩,⟨hi.1,hi.2.1⟩⟩,p2,lo,hi⟩
     ·exact g2 h a ha
 obtain⟨b,h1,h2⟩:=loop _ 0 rfl
 rw[List.drop_zero] at h2
 exact⟨b,dJ.e0 l h1,h2⟩
end Qu
def XJ(v:Rat):aH:=dN [-v,1] v v
namespace Lm
theorem Qv(a b:Rat)(h:a≤b)(h1:ht a≤68719476736)(h2:ht b≤68719476736)(he:eh a 0=eh b 0):Cp 210 [(gI a b).pv] (.aB [vI (eh a 0),vB true]) :=
 ld.e1 (gI a b) (gI a b) _ _ (Fm.given a b h1 h2 h) (QR.Sign a (by omega)) (QR.Sign b (by omega)) he
theorem UA(a b:Rat)(h:a≤b)(h1:ht a≤68719476736)(h2:ht b≤68719476736)(he:eh a 0≠eh b 0):Cp 210 [(gI a b).pv] (.aB [vI 0,vB false]) :=
 ld.e0 (gI a b) (gI a b) _ _ (Fm.given a b h1 h2 h) (QR.Sign a (by omega)) (QR.Sign b (by omega)) he
end Lm
theorem IQ{f p:List Rat}{lo hi:Rat}(A:dW f lo hi)(h1:¬0<(cu p lo hi).1)(h2:¬(cu p lo hi).2<0)(he:eh (cu p lo hi).1 0=eh (cu p lo hi).2 0):Zr f lo hi p:=by
 have z1:(cu p lo hi).1=0∧(cu p lo hi).2=0:=by
  rcases eM (cu p lo hi).1 0 with q|q|q<;>rcases eM (cu p lo hi).2 0 with r|r|r
  ·exact absurd r.1 h2
  ·omega
  ·omega
  ·omega
  ·exact⟨q.1,r.1⟩
  ·omega
  ·exact absurd q.1 h1
  ·exact absurd q.1 h1
  ·exact absurd q.1 h1
 have hz:∀x,lo≤x→x≤hi→evalL p x=0:=fun x a b=>by
  obtain⟨o1,o2⟩:=Ov.val a b p
  rw[z1.1] at o1
  rw[z1.2] at o2
  grind
 by_cases ba:lo=hi
 ·exact(A.qJ (rm ba)).2 (hz lo Rat.le_refl A.le)
 ·have hl:lo<hi:=by have:=A.le;grind
  intro u v hu hv ha
  obtain⟨a,b,a1,b1,a2,a3,b2,b3⟩:=A.meet hu hv (A.low hl Rat.le_refl) (A.high hl Rat.le_refl)
  have dF:=A.nK a1 b1
  exact ha.ne a2 (by grind) (hz a a3 (by grind))
namespace vY
theorem Of{v:Rat}(h:ht v≤68719476736):Cp 27 [(aJ v).pv] (XJ v).pv :=
 ra.e0 (aJ v) (aJ v) (aJ (-v)) (aJ 1) (QR.uM v h) (QR.Neg v h) (uo.Of 1 ⟨by decide,by decide⟩)
theorem half{f:List Rat}{lo hi:Rat}(F:Sm f)(A:dW f lo hi)(h1:ht lo≤1073741824)(h2:ht hi≤1073741824)(h3:ht (midQ lo hi)≤1073741824):Cp 142 [(dN f lo hi).pv] (dN f (dY f lo hi).1 (dY f lo hi).2).pv:=by
 have hle:=A.le
 have cm:=Fm.SY lo hi h1 h2 hle
 change Cp 226 [(gI lo hi).pv] (aJ (midQ lo hi)).pv at cm
 obtain⟨a1,a2⟩:=Fm.Up f (midQ lo hi) (eA F.f (by omega)) (by have:=F.l;omega) h3
 obtain⟨b1,b2⟩:=Fm.Up f lo (eA F.f (by omega)) (by have:=F.l;omega) h1
 have hm:=xh lo hi
 unfold dY
 by_cases he:lo=hi
 ·rw[if_pos he]
  have em:midQ lo hi=lo:=by rw[←he] at hm ⊢;grind
  have ez:evalL f (midQ lo hi)=0:=by
   rw[em]
   rcases A.Jv with ⟨_,k⟩|⟨k,_⟩
   ·exact k
   ·grind
  have:=gx.e0 (dN f lo hi) _ _ _ cm a1 a2 (mv.2 ez)
  have e2:(⟨(dN f lo hi).p,⟨aJ (midQ lo hi),aJ (midQ lo hi)⟩⟩:aH)=dN f lo hi:=by rw[em];unfold dN gI;rw[←he]
  rwa[e2] at this
 ·rw[if_neg he]
  have ba:lo<hi:=by grind
  have ec:aP f lo hi (midQ lo hi)=sg (evalL f (midQ lo hi))*sg (evalL f lo):=by
   unfold aP
   rw[if_neg he,if_neg (by grind),if_neg (by grind)]
  have nl:=vd (A.ends ba).1
  rw[ec]
  by_cases k0:sg (evalL f (midQ lo hi))=0
  ·rw[if_pos (by rw[k0];exact Int.zero_mul _)]
   exact gx.e0 (dN f lo hi) _ _ _ cm a1 a2 k0
  ·have n0:sg (evalL f (midQ lo hi))=1∨sg (evalL f (midQ lo hi)) = -1:=by rcases jS (evalL f (midQ lo hi)) with q|q|q<;>simp[q] at k0 ⊢
   by_cases k1:sg (evalL f (midQ lo hi))=sg (evalL f lo)
   ·rw[if_neg (by rcases n0 with q|q<;>rcases nl with r|r<;>rw[q,r]<;>decide),if_pos (by rcases n0 with q|q<;>rcases nl with r|r<;>rw[q,r]<;>first|decide|(exfalso;omega))]
    exact gx.e1 (dN f lo hi) _ _ _ _ _ cm a1 a2 k0 b1 b2 k1
   ·rw[if_neg (by rcases n0 with q|q<;>rcases nl with r|r<;>rw[q,r]<;>decide),if_neg (by rcases n0 with q|q<;>rcases nl with r|r<;>rw[q,r]<;>first|decide|(exfalso;omega))]
    exact gx.e2 (dN f lo hi) _ _ _ _ _ cm a1 a2 k0 b1 b2 k1
theorem NH{f:List Rat}{lo hi a w:Rat}{k:Nat}(F:Sm f)(A:dW f lo hi)(D:Dy a w k lo hi)(hh:ht a+ht w+(k+1)/32+4≤1073741824):Cp 142 [(dN f lo hi).pv] (dN f (dY f lo hi).1 (dY f lo hi).2).pv:=by
 obtain⟨h1,h2⟩:=D.ht
 by_cases he:lo=hi
 ·have hm:=xh lo hi
  have em:midQ lo hi=lo:=by rw[←he] at hm ⊢;grind
  exact half F A (by omega) (by omega) (by rw[em];omega)
 ·exact half F A (by omega) (by omega) (by have:=D.kt he;omega)
theorem Su{p f:List Rat}{lo hi:Rat}(P:Wd p)(F:Sm f)(f0:f≠[])(hle:lo≤hi)(h1:ht lo≤1073741824)(h2:ht hi≤1073741824):Cp 205 [pq p,(dN f lo hi).pv] (vB (CT p f lo hi)):=by
 unfold CT
 by_cases h0:p.length=0
 ·rw[if_pos h0]
  exact fQ.e0 _ (dN f lo hi) (by rw[bJ];exact h0)
 ·rw[if_neg h0]
  have c1:=QR.o9 lo hi (by omega) (by omega)
  by_cases he:lo=hi
  ·rw[if_pos he]
   obtain⟨a1,a2⟩:=Fm.Up p lo (eA P.fl (by omega)) (by have:=P.l;omega) h1
   have:=fQ.e1 _ (dN f lo hi) _ _ _ (by rw[bJ];exact h0) c1 (ew.2 he) a1 a2
   rw[uB (q:=evalL p lo=0) mv] at this
   exact this
  ·rw[if_neg he]
   have fi:=K4 P F f0
   have hg:=RQ.Gcd (h:=2000) (b:=7) (c:=2080) (L:=9) (by omega) (by omega) (by omega) (by omega) (by omega) Y6 p f P.z F.z P.l (by have:=F.l;omega) P.ch F.ch
   have cn:=Fm.Count fi lo hi hle h1 h2
   exact fQ.e2 _ (dN f lo hi) _ _ _ _ _ (by rw[bJ];exact h0) c1 (dV he) hg cn
theorem He{p f:List Rat}{a w:Rat}{K:Nat}(P:Wd p)(F:Sm f)(hh:ht a+ht w+K/32+4≤67108864):∀(n k:Nat) (lo hi:Rat) (s:Int),n+k≤K+1→dW f lo hi→¬Zr f lo hi p→Dy a w k lo hi→Nz p f n lo hi=some s→dA.ah (p.map aJ) (dN f lo hi) (vI s)
 |0,_,_,_,_,_,_,_,_,h=>by cases h
 |n+1,k,lo,hi,s,hn,A,hz,D,h=>by
  obtain⟨d1,d2⟩:=D.ht
  have hle:=A.le
  have Vp:=Iv.XB p (gI lo hi) P.XH (eA P.fl (by omega)) (ou (by omega) (by omega))
  rw[nX hle,nY hle] at Vp
  have ho:=GY p lo hi
  obtain⟨t1,t2⟩:=Cj (k:=2000) (m:=536870912) p lo hi P.fl (by omega) (by omega)
  have hm:p.length*(2000+536870912+1)≤9*(2000+536870912+1):=Nat.mul_le_mul_right _ P.l
  rw[Nz] at h
  by_cases k1:0<(cu p lo hi).1
  ·rw[if_pos k1] at h
   injection h with h
   subst h
   have e1:eh (cu p lo hi).1 0=1:=mo k1
   have e2:eh (cu p lo hi).2 0=1:=mo (by grind)
   have hs:=Lm.Qv _ _ ho (by omega) (by omega) (by rw[e1,e2])
   rw[e1] at hs
   exact dA.l10 _ (dN f lo hi) _ _ _ _ Vp hs rfl
  ·rw[if_neg k1] at h
   by_cases k2:(cu p lo hi).2<0
   ·rw[if_pos k2] at h
    injection h with h
    subst h
    have e1:eh (cu p lo hi).1 0 = -1:=kI (by grind)
    have e2:eh (cu p lo hi).2 0 = -1:=kI k2
    have hs:=Lm.Qv _ _ ho (by omega) (by omega) (by rw[e1,e2])
    rw[e1] at hs
    exact dA.l10 _ (dN f lo hi) _ _ _ _ Vp hs rfl
   ·rw[if_neg k2] at h
    match n,h with
    |0,h=>cases h
    |n+1,h =>
     have Og:¬Zr f (dY f lo hi).1 (dY f lo hi).2 p:=by
      unfold Zr at hz ⊢
      rw[rq A]
      exact hz
     have ih:=He P F hh (n+1) (k+1) _ _ s (by omega) (fy A).1 Og (D.half f) h
     have hv:=NH F A D (by omega)
     by_cases he:eh (cu p lo hi).1 0=eh (cu p lo hi).2 0
     ·exact absurd (IQ A k1 k2 he) hz
     ·have hs:=Lm.UA _ _ ho (by omega) (by omega) he
      exact dA.cR _ (dN f lo hi) _ _ _ _ _ Vp hs rfl hv ih
theorem PA{p f:List Rat}{lo hi a w:Rat}{K n k:Nat}(P:Wd p)(F:Sm f)(A:dW f lo hi)(D:Dy a w k lo hi)(hn:n+k≤K+1)(hk:k≤K)(hh:ht a+ht w+K/32+4≤67108864)(hs:¬Zr f lo hi p→∃s,Nz p f n lo hi=some s) :
  ∃s,Ql f lo hi p s∧(s=0∨s=1∨s = -1)∧Cp 123 [pq p,(dN f lo hi).pv] (vI s):=by
 obtain⟨d1,d2⟩:=D.ht
 have hv:=Su P F A.f0 A.le (lo:=lo) (hi:=hi) (by omega) (by omega)
 by_cases hz:Zr f lo hi p
 ·refine⟨0,Or.inl ⟨rfl,hz⟩,Or.inl rfl,?_⟩
  exact dA.e0 _ (dN f lo hi) _ hv ((rn A P.z).2 hz)
 ·obtain⟨s,h⟩:=hs hz
  obtain⟨k1,k2⟩:=G9 _ _ _ s A h
  refine⟨s,k1,Or.inr k2,?_⟩
  have hb:CT p f lo hi=false:=by
   cases hb:CT p f lo hi with
   |false=>rfl
   |true=>exact absurd ((rn A P.z).1 hb) hz
  exact dA.e1 _ (dN f lo hi) _ hv hb (He P F hh n k lo hi s hn A hz D h)
theorem AA{f:List Rat}{lo hi a w:Rat}{K k:Nat}(F:Sm f)(A:dW f lo hi)(D:Dy a w k lo hi){x:af}{x0:Rat}{h:Nat}(hof:Cp 27 [x.pv] (XJ x0).pv)(h1:1≤h)(hx:ht x0≤h)(h9:h≤900)(hn:32*(6*(2*h+1)+1)+237+33+1+k≤K+1)(hh:ht a+ht w+K/32+4≤67108864)(b1:ab lo≤twP 32)(b2:ab hi≤twP 32) :
  Cp 72 [(dN f lo hi).pv,x.pv] (vI (aP f lo hi x0)):=by
 have P:Wd [-x0,1]:=Wd.XG (by omega)
 obtain⟨s,k1,k2,k3⟩:=PA P F A D (n:=32*(6*(2*h+1)+1)+237+33+1) (K:=K) hn (by omega) hh (fun hz=>by
  refine Pr F A (fun e=>hz ?_) h1 hx b1 b2 (Nat.le_refl _)
  exact(A.qJ e).2 (by show(0*x0+1)*x0 + -x0=0;grind))
 have:=Ps A k1
 subst this
 exact nC.e0 (dN f lo hi) x (XJ x0) _ hof k3
theorem Hf {f k : List Rat} {a w a' w' : Rat} {K : Nat} (F : Sm f) (G : Sm k) (QW : k ≠ []) (XK : f ≠ []) (hh : ht a + ht w + (K + 4000) / 32 + 4 ≤ 67108864) (Y7 : ht a' + ht w' + (K + 4000) / 32 + 4 ≤ 67108864) : ∀ (n j : Nat) (lo hi lo' hi' : Rat) (s : Int), n + j ≤ K + 1 → dW f lo hi → dW k lo' hi' → Dy a w j lo hi → Dy a' w' j lo' hi' → ab lo ≤ twP 32 → ab hi ≤ twP 32 → ab lo' ≤ twP 32 → ab hi' ≤ twP 32 →
      ve f k (bE f k) n lo hi lo' hi' = some s → cb.ah ((bE f k).map aJ) (dN f lo hi) (dN k lo' hi') (vI s)
  | 0, _, _, _, _, _, _, _, _, _, _, _, _, _, _, _, h => by cases h
  | n + 1, j, lo, hi, lo', hi', s, hn, A, B, D, E, b1, b2, b3, b4, h => by
    obtain ⟨d1, d2⟩ := D.ht
    obtain ⟨e1, e2⟩ := E.ht
    have c1 := QR.o9 hi lo' (by omega) (by omega)
    have c2 := QR.o9 hi' lo (by omega) (by omega)
    have c3 := QR.o9 lo' hi' (by omega) (by omega)
    have c4 := QR.o9 lo hi (by omega) (by omega)
    have lA := A.le
    have lB := B.le
    rw [ve] at h
    by_cases q1 : hi < lo'
    · rw [if_pos q1] at h
      injection h with h
      subst h
      exact cb.l10 _ (dN f lo hi) (dN k lo' hi') _ c1 (by rw [kI q1]; omega)
    · rw [if_neg q1] at h
      have n1 : 0 ≤ eh hi lo' := qp.2 (by grind)
      by_cases q2 : hi' < lo
      · rw [if_pos q2] at h
        injection h with h
        subst h
        exact cb.cR _ (dN f lo hi) (dN k lo' hi') _ _ c1 n1 c2 (by rw [kI q2]; omega)
      · rw [if_neg q2] at h
        have n2 : 0 ≤ eh hi' lo := qp.2 (by grind)
        by_cases q3 : lo' = hi'
        · rw [if_pos q3] at h
          injection h with h
          subst h
          have r0 : evalL k lo' = 0 := (B.yl (rm q3)).1
          have rh := J7 G QW r0 b3
          have hc := AA (K := K + 4000) F A D (Of (v := lo') (by omega)) (show 1 ≤ 8 by omega) rh (by omega) (by omega) hh b1 b2
          exact cb.kM _ (dN f lo hi) (dN k lo' hi') _ _ _ _ c1 n1 c2 n2 c3 (ew.2 q3) hc
        · rw [if_neg q3] at h
          by_cases q4 : lo = hi
          · rw [if_pos q4] at h
            injection h with h
            subst h
            have r0 : evalL f lo = 0 := (A.yl (rm q4)).1
            have rh := J7 F XK r0 b1
            have hc := AA (K := K + 4000) G B E (Of (v := lo) (by omega)) (show 1 ≤ 8 by omega) rh (by omega) (by omega) Y7 b3 b4
            exact cb.tq _ (dN f lo hi) (dN k lo' hi') _ _ _ _ _ c1 n1 c2 n2 c3 (dV q3) c4 (ew.2 q4) hc (by unfold ax; rcases B.three lo with r | r | r <;> rw [r] <;> omega)
          · rw [if_neg q4] at h
            have fi := tR F.z G.z F.l G.l F.ch G.ch QW
            have gk := G.l
            have gl := ((gT f k F.z G.z).2.len fi.zp G.z QW).2
            have gW : Wd (bE f k) := ⟨fi.zp, by omega, fi.ch.mono (by
              have : xB 7 63 (6 - (bE f k).length) ≤ 1951 := by rw [← Y4]; exact cz 7 63 (by omega) (by have := List.length_pos_iff.2 fi.ne; omega)
              omega)⟩
            have v1 := Su gW F XK lA (lo := lo) (hi := hi) (by omega) (by omega)
            have v2 := Su gW G QW lB (lo := lo') (hi := hi') (by omega) (by omega)
            have hl := Lm.Xz (gI lo hi) (gI lo' hi') (ou (by omega) (by omega)) (ou (by omega) (by omega))
            rw [nX lA, nY lA, nX lB, nY lB] at hl
            have hs := BT lo lo' (k := 1073741824) (by omega) (by omega)
            have ht := BU hi hi' (k := 1073741824) (by omega) (by omega)
            have aI : fa lo lo' ≤ fR hi hi' := by have := jo lo lo'; have := iA hi hi'; grind
            have cn := Fm.Count fi (fa lo lo') (fR hi hi') aI hs ht
            obtain ⟨t1, t2⟩ := Fm.Up (bE f k) (fa lo lo') fi.Nq fi.xp hs
            by_cases q5 : Hb f k (bE f k) lo hi lo' hi' = true
            · rw [if_pos q5] at h
              injection h with h
              subst h
              unfold Hb at q5
              rw [Bool.and_eq_true, Bool.and_eq_true, Bool.and_eq_true, decide_eq_true_iff, decide_eq_true_iff] at q5
              obtain ⟨u1, u2, u3, u4⟩ := q5
              exact cb.Ew _ (dN f lo hi) (dN k lo' hi') _ _ _ _ _ _ (gI (fa lo lo') (fR hi hi')) _ _ _ _ c1 n1 c2 n2 c3 (dV q3) c4 (dV q4) v1 u1 v2 u2 hl cn u3 t1 t2 (fun e => u4 (mv.1 e))
            · rw [if_neg q5] at h
              match n, h with
              | 0, h => cases h
              | n + 1, h =>
                obtain ⟨g1, g2, g3, g4, g5⟩ := fy A
                obtain ⟨p1, p2, p3, p4, p5⟩ := fy B
                have lg := g1.le
                have lp := p1.le
                have ih := Hf F G QW XK hh Y7 (n + 1) (j + 1) _ _ _ _ s (by omega) g1 p1 (D.half f) (E.half k) (aY g3 (by grind) b1 b2) (aY (by grind) g4 b1 b2) (aY p3 (by grind) b3 b4) (aY (by grind) p4 b3 b4) h
                have y1 := NH F A D (by omega)
                have y2 := NH G B E (by omega)
                cases u1 : CT (bE f k) f lo hi with
                | false => exact cb.Z6 _ (dN f lo hi) (dN k lo' hi') _ _ _ _ _ _ _ c1 n1 c2 n2 c3 (dV q3) c4 (dV q4) v1 u1 y1 y2 ih
                | true =>
                  cases u2 : CT (bE f k) k lo' hi' with
                  | false => exact cb.Z5 _ (dN f lo hi) (dN k lo' hi') _ _ _ _ _ _ _ _ c1 n1 c2 n2 c3 (dV q3) c4 (dV q4) v1 u1 v2 u2 y1 y2 ih
                  | true =>
                    by_cases u3 : fG (bA (bE f k)) (fa lo lo') - fG (bA (bE f k)) (fR hi hi') = 1
                    · by_cases u4 : evalL (bE f k) (fa lo lo') = 0
                      · exact cb.TW _ (dN f lo hi) (dN k lo' hi') _ _ _ _ _ _ (gI (fa lo lo') (fR hi hi')) _ _ _ _ _ _ c1 n1 c2 n2 c3 (dV q3) c4 (dV q4) v1 u1 v2 u2 hl cn u3 t1 t2 (mv.2 u4) y1 y2 ih
                      · exfalso
                        refine q5 ?_
                        unfold Hb
                        rw [u1, u2, decide_eq_true u3, decide_eq_true u4]
                        rfl
                    · exact cb.WM _ (dN f lo hi) (dN k lo' hi') _ _ _ _ _ _ (gI (fa lo lo') (fR hi hi')) _ _ _ _ c1 n1 c2 n2 c3 (dV q3) c4 (dV q4) v1 u1 v2 u2 hl cn u3 y1 y2 ih
theorem cmp{f k:List Rat}{lo hi lo' hi':Rat}(F:Sm f)(G:Sm k)(A:dW f lo hi)(B:dW k lo' hi')(h1:ht lo≤1)(h2:ht hi≤1)(h3:ht lo'≤1)(h4:ht hi'≤1) :
  ∃s,Cm s f lo hi k lo' hi'∧Cp 122 [(dN f lo hi).pv,(dN k lo' hi').pv] (vI s):=by
 have bd:∀x:Rat,ht x≤1→ab x≤twP 32:=fun x hx=>Rat.le_trans (B8 x) (bx (by omega))
 have fi:=tR F.z G.z F.l G.l F.ch G.ch B.f0
 obtain⟨N,hN⟩:∃N:Nat,N=1971620308:=⟨_,rfl⟩
 obtain⟨s,hs⟩:=IN F G A B (bd lo h1) (bd hi h2) (bd lo' h3) (bd hi' h4) (N:=N) (by omega)
 have cg:=NB (gT f k F.z G.z).1 A.Au
 refine⟨s,Cr fi.zp fi.ne cg _ lo hi lo' hi' s A B hs,?_⟩
 have w1:=sj hi lo
 have w2:=sj hi' lo'
 have hg:=RQ.Gcd (h:=2000) (b:=7) (c:=2080) (L:=9) (by omega) (by omega) (by omega) (by omega) (by omega) Y6 f k F.z G.z (by have:=F.l;omega) (by have:=G.l;omega) (F.ch.mono (by omega)) G.ch
 exact cb.e0 (dN f lo hi) (dN k lo' hi') _ _ hg (Hf (K:=N+237+33) F G B.f0 A.f0 (by omega) (by omega) _ 0 lo hi lo' hi' s (by omega) A B (Dy.start lo hi) (Dy.start lo' hi') (bd lo h1) (bd hi h2) (bd lo' h3) (bd hi' h4) hs)
end vY
def grQ(n:Int)(b:Nat):Rat:=Rat.divInt n ((2^b:Nat):Int)
theorem two_pos(b:Nat):(0:Int)<((2^b:Nat):Int):=by
 have:=Nat.pow_pos (n:=b) (show 0<2 by omega)
 omega
theorem iX(n:Int)(b:Nat):grQ n b*twP b=(n:Rat):=by
 unfold grQ twP
 rw[Rat.divInt_eq_div]
 exact Rat.div_mul_cancel (Cf b)
theorem yx{n:Int}{b:Nat}{x:Rat} : grQ n b≤x↔(n:Rat)≤x*twP b:=by
 rw[←iX n b]
 have p:=bU b
 constructor
 ·intro h;exact Rat.mul_le_mul_of_nonneg_right h (Rat.le_of_lt p)
 ·intro h
  refine Rat.not_lt.1 fun ba => ?_
  have:=Rat.mul_lt_mul_of_pos_right ba p
  grind
theorem IS{n:Int}{b:Nat}{x:Rat} : x<grQ n b↔x*twP b<(n:Rat):=by
 rw[←Rat.not_le,yx,Rat.not_le]
theorem qL{n:Int}(h:n.natAbs<4294967296^4):wl n≤4:=mC h
namespace rp
theorem scaled(n:Int)(hn:wl n≤1000){b:Nat}(hb:b≤64):Cp 63 [(Sym.whole n).pv,vI (b:Int)] (.aB [(aJ (grQ n b)).pv,.az]):=by
 have w2:∀t:Nat,t≤64→wl (((2^t:Nat):Int))≤4:=fun t ht=>qL (by
  rw[Int.natAbs_natCast]
  have:2^t≤2^64:=Nat.pow_le_pow_right (by omega) ht
  omega)
 have loop:∀d t:Nat,t+d=b→ir.ah (b:Int) t (Sym.whole n) (Sym.whole ((2^t:Nat):Int)) (.aB [(aJ (grQ n b)).pv,.az]):=by
  intro d
  induction d with
  |zero =>
   intro t ht
   have:t=b:=by omega
   subst this
   have hf:=um.It (Sym.whole n) (Sym.whole ((2^t:Nat):Int)) (by rw[fE];omega) (by rw[fE];have:=w2 t hb;omega) (by rw[aw];have:=two_pos t;omega)
   rw[aw,aw] at hf
   exact ir.cR _ t _ _ _ none (by omega) hf
  |succ d ih =>
   intro t ht
   have hw:=w2 t (by omega)
   have ha:=cP.Add (Sym.whole ((2^t:Nat):Int)) (Sym.whole ((2^t:Nat):Int)) (by show _≤_;rw[fE];omega) (by show _≤_;rw[fE];omega)
   rw[aw,show((2^t:Nat):Int)+((2^t:Nat):Int)=((2^(t+1):Nat):Int) by rw[Nat.pow_succ];omega] at ha
   exact ir.l10 _ t _ _ _ (by omega) ha (by omega) (ih (t+1) (by omega))
 exact ir.e0 (Sym.whole n) _ (Sym.whole 1) (cP.Of 1 (by unfold ax;omega)) (loop b 0 (by omega))
theorem UB{x:Rat}(hx:ht x≤1000){b:Nat}(hb:b≤64):Cp 130 [(aJ x).pv,vI (b:Int)] (Sym.whole (x*twP b).floor).pv:=by
 have SP:∀t,t≤64→ht (x*twP t)≤2000:=fun t h=>by
  have h1:=fw x (twP t)
  have h2:=tQ (j:=t) (by omega)
  omega
 have loop:∀d t:Nat,t+d=b→jJ.ah (b:Int) t (aJ (x*twP t)) (Sym.whole (x*twP b).floor).pv:=by
  intro d
  induction d with
  |zero =>
   intro t h
   have:t=b:=by omega
   subst this
   have hh:=SP t hb
   have hf:=aZ hh
   have:=um.Ue (aJ (x*twP t)) ⟨by omega,by omega⟩
   rw[bl] at this
   exact jJ.cR _ t _ _ (by omega) this
  |succ d ih =>
   intro t h
   have hh:=SP t (by omega)
   have ha:=QF.Add (x*twP t) (x*twP t) (by omega) (by omega)
   rw[show x*twP t+x*twP t=x*twP (t+1) by rw[cF];grind] at ha
   exact jJ.l10 _ t _ _ (by omega) ha (by omega) (ih (t+1) (by omega))
 have:=loop b 0 (by omega)
 rw[mn,Rat.mul_one] at this
 exact jJ.e0 _ _ this
theorem DV(q:Rat):((q.floor:Int):Rat)≤q:=Rat.floor_le q
theorem DW(q:Rat):q<((q.floor+1:Int):Rat):=by
 exact Rat.lt_floor_add_one q
theorem floor{f:List Rat}{lo hi:Rat}(F:Sm f)(A:dW f lo hi)(h1:ht lo≤1)(h2:ht hi≤1){b:Nat}(hb:b≤64):∃n:Int,Cp 62 [(dN f lo hi).pv,vI (b:Int)] (.aB [(Sym.whole n).pv,.az])∧n.natAbs<2^100∧0≤aP f lo hi (grQ n b)∧aP f lo hi (grQ (n+1) b) = -1:=by
 have O:=F.ok (lo:=lo) (hi:=hi) (by omega) (by omega)
 have g1:=UB (x:=lo) (by omega) hb
 have g2:=UB (x:=hi) (by omega) hb
 have bd:∀x:Rat,ht x≤1→(x*twP b).floor.natAbs<2^98:=by
  intro x hx
  have a1:=B8 x
  have a2:=Rat.le_trans a1 (bx (show 32*ht x≤32 by omega))
  have p:=bU b
  have a3:ab (x*twP b)≤twP 96:=by
   rw[fS]
   have e:ab (twP b)=twP b:=by rcases bb (twP b) with k|k<;>grind
   rw[e]
   have:=cG a2 (bx hb) (bn x) (Rat.le_of_lt (bU 64))
   rw[←fT] at this
   exact this
  have f1:=DV (x*twP b)
  have f2:=DW (x*twP b)
  have l1:=lF (x*twP b)
  have l2:=dO (x*twP b)
  have u1:(((x*twP b).floor:Int):Rat)≤(((2^96:Nat):Int):Rat):=by
   have:twP 96=(((2^96:Nat):Int):Rat):=rfl
   rw[←this];grind
  have u2:((-((2^96:Nat):Int):Int):Rat)<(((x*twP b).floor+1:Int):Rat):=by
   have:twP 96=(((2^96:Nat):Int):Rat):=rfl
   rw[Rat.intCast_neg,←this];grind
  have v1:=Rat.intCast_le_intCast.1 u1
  have v2:=Rat.intCast_lt_intCast.1 u2
  omega
 have b1:=bd lo h1
 have b2:=bd hi h2
 have w:∀n:Int,n.natAbs<2^101→wl n≤4:=fun n hn=>qL (Nat.lt_of_lt_of_le hn (by decide))
 have s1:0≤aP f lo hi (grQ (lo*twP b).floor b):=nL A (yx.2 (DV _))
 have s2:aP f lo hi (grQ ((hi*twP b).floor+1) b) = -1:=A.mono (IS.2 (DW _)) A.tN
 have loop:∀(k:Nat) (u v:Int),(v-u).toNat≤k→u.natAbs<2^99→v.natAbs<2^99→0≤aP f lo hi (grQ u b)→aP f lo hi (grQ v b) = -1 →
   ∃n:Int,gG.ah (b:Int) (dN f lo hi) (Sym.whole u) (Sym.whole v) (.aB [(Sym.whole n).pv,.az])∧n.natAbs<2^100∧0≤aP f lo hi (grQ n b)∧aP f lo hi (grQ (n+1) b) = -1:=by
  intro k
  induction k with
  |zero =>
   intro u v hk hu hv c1 c2
   exfalso
   have hle:grQ v b≤grQ u b:=by
    rw[yx,iX]
    exact Rat.intCast_le_intCast.2 (by omega)
   by_cases e:grQ v b=grQ u b
   ·rw[e] at c2;omega
   ·have:=A.mono (x:=grQ v b) (y:=grQ u b) (by grind) (by omega);omega
  |succ k ih =>
   intro u v hk hu hv c1 c2
   have mw:u<v:=by
    refine Int.not_le.1 fun hle => ?_
    have XL:grQ v b≤grQ u b:=by
     rw[yx,iX]
     exact Rat.intCast_le_intCast.2 hle
    by_cases e:grQ v b=grQ u b
    ·rw[e] at c2;omega
    ·have:=A.mono (x:=grQ v b) (y:=grQ u b) (by grind) (by omega);omega
   have fu:Fit (Sym.whole u).cD:=by show _≤_;rw[fE];have:=w u (by omega);omega
   have fv:Fit (Sym.whole v).cD:=by show _≤_;rw[fE];have:=w v (by omega);omega
   have q1:=cP.Sub (Sym.whole v) (Sym.whole u) fv fu
   rw[aw,aw] at q1
   have o1:=cP.Of 1 (by unfold ax;omega)
   have o2:=cP.Of 2 (by unfold ax;omega)
   have q2:=cP.o9 (Sym.whole (v-u)) (Sym.whole 1) (by show _≤_;rw[fE];have:=w (v-u) (by omega);omega) (by show _≤_;rw[fE];have:=w 1 (by decide);omega)
   rw[aw,aw] at q2
   by_cases hd:1<v-u
   ·have q3:=cP.Add (Sym.whole u) (Sym.whole v) fu fv
    rw[aw,aw] at q3
    have q4:=cP.Div (Sym.whole (u+v)) (Sym.whole 2) (by show _≤_;rw[fE];have:=w (u+v) (by omega);omega) (by show _≤_;rw[fE];have:=w 2 (by decide);omega) (by rw[aw];omega)
    rw[aw,aw] at q4
    have U3:u<(u+v)/2:=by omega
    have SL:(u+v)/2<v:=by omega
    have wm:=w ((u+v)/2) (by omega)
    have q5:=scaled ((u+v)/2) (by omega) hb
    have hg:ht (grQ ((u+v)/2) b)≤1073741824:=by
     unfold grQ
     rw[Rat.divInt_eq_div]
     have x1:=nV (((u+v)/2:Int):Rat) ((((2^b:Nat):Int)):Rat)
     have x2:ht (((u+v)/2:Int):Rat)≤4:=by rw[tF];omega
     have x3:ht ((((2^b:Nat):Int)):Rat)≤3:=tQ (j:=b) (by omega)
     omega
    have q6:=compare O A.le hg
    by_cases hc:0≤aP f lo hi (grQ ((u+v)/2) b)
    ·obtain⟨n,n1,n2⟩:=ih ((u+v)/2) v (by omega) (by omega) hv hc c2
     exact⟨n,gG.l10 _ (dN f lo hi) _ _ _ _ _ _ _ _ _ none _ _ q1 o1 q2 (by rw[oo hd];omega) q3 o2 q4 q5 q6 hc n1,n2⟩
    ·obtain⟨n,n1,n2⟩:=ih u ((u+v)/2) (by omega) hu (by omega) c1 (by rcases A.three (grQ ((u+v)/2) b) with m|m|m<;>omega)
     exact⟨n,gG.cR _ (dN f lo hi) _ _ _ _ _ _ _ _ _ none _ _ q1 o1 q2 (by rw[oo hd];omega) q3 o2 q4 q5 q6 (by omega) n1,n2⟩
   ·have BM:v=u+1:=by omega
    refine⟨u,gG.Ew _ (dN f lo hi) _ _ _ _ _ q1 o1 q2 (by unfold dR;rw[if_neg (by omega),if_pos (by omega)];omega),by omega,c1,by rw[←BM];exact c2⟩
 obtain⟨n,n1,n2⟩:=loop _ _ _ (Nat.le_refl _) (by omega) (by omega) s1 s2
 have o1:=cP.Of 1 (by unfold ax;omega)
 have ad:=cP.Add (Sym.whole (hi*twP b).floor) (Sym.whole 1) (by show _≤_;rw[fE];have:=w (hi*twP b).floor (by omega);omega) (by show _≤_;rw[fE];have:=w 1 (by decide);omega)
 rw[aw,aw] at ad
 exact⟨n,gG.e0 (dN f lo hi) _ _ _ _ _ g1 g2 o1 ad n1,n2⟩
end rp
theorem Hg{m n:Int}{b:Nat}(h:m≤n):grQ m b≤grQ n b:=by
 rw[yx,iX]
 exact Rat.intCast_le_intCast.2 h
theorem vZ{f:List Rat}{lo hi:Rat}(A:dW f lo hi){m n:Int}{b:Nat}(h1:0≤aP f lo hi (grQ m b))(h2:aP f lo hi (grQ (m+1) b) = -1)(k1:0≤aP f lo hi (grQ n b))(k2:aP f lo hi (grQ (n+1) b) = -1):m=n:=by
 have key:∀{m n:Int},0≤aP f lo hi (grQ n b)→aP f lo hi (grQ (m+1) b) = -1→n≤m:=fun {m n} u v=>by
  refine Int.not_lt.1 fun ba => ?_
  have hle:=Hg (b:=b) (show m+1≤n by omega)
  by_cases e:grQ (m+1) b=grQ n b
  ·rw[e] at v;omega
  ·have:=A.mono (x:=grQ (m+1) b) (y:=grQ n b) (by grind) (by omega)
   omega
 have:=key k1 h2
 have:=key h1 k2
 omega
theorem mY{n:Int}(h:n.natAbs<2^101){b:Nat}(hb:b≤64):ht (grQ n b)≤1000:=by
 unfold grQ
 rw[Rat.divInt_eq_div]
 have w:wl n≤4:=qL (Nat.lt_of_lt_of_le h (by decide))
 have x1:=nV ((n:Int):Rat) ((((2^b:Nat):Int)):Rat)
 have x2:ht ((n:Int):Rat)≤4:=by rw[tF];omega
 have x3:ht ((((2^b:Nat):Int)):Rat)≤3:=tQ (j:=b) (by omega)
 omega
namespace rp
theorem Qw{f:List Rat}{lo hi:Rat}{n:Int}{b:Nat}(hn:n.natAbs<2^100)(hb:b≤64):Cp 67 [vI 1] (Sym.whole 1).pv∧Cp 66 [(Sym.whole n).pv,(Sym.whole 1).pv] (Sym.whole (n+1)).pv∧Cp 63 [(Sym.whole (n+1)).pv,vI (b:Int)] (.aB [(aJ (grQ (n+1) b)).pv,.az]):=by
 have w1:wl n≤4:=qL (Nat.lt_of_lt_of_le hn (by decide))
 have w2:wl (n+1)≤4:=qL (Nat.lt_of_lt_of_le (show (n+1).natAbs<2^101 by omega) (by decide))
 have w3:wl 1≤4:=qL (by decide)
 have ad:=cP.Add (Sym.whole n) (Sym.whole 1) (by show _≤_;rw[fE];omega) (by show _≤_;rw[fE];omega)
 rw[aw,aw] at ad
 exact⟨cP.Of 1 (by unfold ax;omega),ad,scaled (n+1) (by omega) hb⟩
theorem UC{a:aH}(ha:Sh a)(hc:gZ a=0){b:Nat}(hb:b≤64):∃n:Int,n.natAbs<2^100∧0≤aP (bI a.p) (loG a.rV) (hiG a.rV) (grQ n b)∧aP (bI a.p) (loG a.rV) (hiG a.rV) (grQ (n+1) b) = -1 ∧
  Cp 13 [a.pv,vI (b:Int)] (.aB [(if aP (bI a.p) (loG a.rV) (hiG a.rV) (grQ n b)=0 then gI (grQ n b) (grQ n b) else gI (grQ n b) (grQ (n+1) b)).pv,.az]):=by
 have A:=ha.acc hc
 have c1:=rp.Check ha
 rw[hc] at c1
 obtain⟨n,n1,n2,n3,n4⟩:=floor A.sm A.wa A.h1 A.h2 hb
 rw[←A.e] at n1
 refine⟨n,n2,n3,n4,?_⟩
 have w1:wl n≤4:=qL (Nat.lt_of_lt_of_le n2 (by decide))
 have s1:=scaled n (by omega) hb
 have hh:=mY (b:=b) (show n.natAbs<2^101 by omega) hb
 have k1:=compare (A.sm.ok (lo:=loG a.rV) (hi:=hiG a.rV) (by have:=A.h1;omega) (by have:=A.h2;omega)) A.wa.le (x:=grQ n b) (by omega)
 rw[←A.e] at k1
 obtain⟨o1,o2,o3⟩:=Qw (f:=bI a.p) (lo:=loG a.rV) (hi:=hiG a.rV) n2 hb
 by_cases h0:aP (bI a.p) (loG a.rV) (hiG a.rV) (grQ n b)=0
 ·rw[if_pos h0]
  exact iu.e2 a _ _ _ _ (gI (grQ n b) (grQ n b)) c1 (by omega) (by omega) n1 s1 k1 h0 (Sc.GS _ (by omega))
 ·rw[if_neg h0]
  exact iu.e3 a _ _ _ _ _ _ _ none c1 (by omega) (by omega) n1 s1 k1 h0 o1 o2 o3
theorem yy{a b:aH}{f g:List Rat}{lo hi lo' hi':Rat}(A:Acc a f lo hi)(B:Acc b g lo' hi'){t:Nat}(ht:t≤64){n:Int}(n1:0≤aP f lo hi (grQ n t))(n2:aP f lo hi (grQ (n+1) t) = -1) :
  (aP g lo' hi' (grQ (n+1) t)=1→b9.ah t a b (.aB [(aJ (grQ (n+1) t)).pv,.az]))∧(aP g lo' hi' (grQ (n+1) t)≠1→∀r,b9.ah (t+1) a b r→b9.ah t a b r):=by
 obtain⟨m,m1,m2,m3,m4⟩:=floor A.sm A.wa A.h1 A.h2 ht
 have Vm:m=n:=vZ A.wa m3 m4 n1 n2
 subst Vm
 rw[←A.e] at m1
 obtain⟨o1,o2,o3⟩:=Qw (f:=f) (lo:=lo) (hi:=hi) m2 ht
 have hh:=mY (b:=t) (show (m+1).natAbs<2^101 by omega) ht
 have k1:=compare (B.sm.ok (lo:=lo') (hi:=hi') (by have:=B.h1;omega) (by have:=B.h2;omega)) B.wa.le (x:=grQ (m+1) t) (by omega)
 rw[←B.e] at k1
 refine⟨fun h => ?_,fun h r hL => ?_⟩
 ·exact b9.l10 t a b _ _ _ _ _ (by omega) m1 o1 o2 o3 k1 (by omega)
 ·exact b9.cR t a b _ _ _ _ _ (by omega) m1 o1 o2 o3 k1 (by rcases B.wa.three (grQ (m+1) t) with q|q|q<;>omega) (by omega) hL
theorem Qx{p:List Rat}(f:dG 7 6 p)(h1:Bd p)(ok:xq 7 6):Cp 21 [pq p] (.aB [dj aH.cells ((sC 7 6 p).map (fun r=>dN (bH p) r.1 r.2)),.az]):=by
 have hi:=J0.Po f h1 ok
 have hF:=Ay.IG f
 have hlen:=J0.GX f h1 ok
 have loop:∀d t:Nat,t+d=(sC 7 6 p).length→jg.ah (p.map aJ) (((sC 7 6 p).take t).map (fun r=>dN (bH p) r.1 r.2)) (mkGs (sC 7 6 p)) t (.aB [dj aH.cells ((sC 7 6 p).map (fun r=>dN (bH p) r.1 r.2)),.az]):=by
  intro d
  induction d with
  |zero =>
   intro t h
   rw[show (sC 7 6 p).take t=sC 7 6 p from List.take_of_length_le (by omega)]
   exact jg.kM _ _ _ t (by rw[Ci];omega)
  |succ d ih =>
   intro t h
   obtain⟨v,hv⟩:∃v,(sC 7 6 p)[t]? = some v:=⟨_,List.getElem?_eq_getElem (by omega)⟩
   have Fj:(mkGs (sC 7 6 p))[t]? = some (gI v.1 v.2):=by unfold mkGs;rw[List.getElem?_map,hv];rfl
   have ih:=ih (t+1) (by omega)
   rw[List.take_add_one,hv,List.map_append] at ih
   exact jg.l10 _ _ _ t (gI v.1 v.2) _ (by rw[Ci];omega) Fj hF (by rw[List.length_append,List.length_map,List.length_take,List.length_singleton];omega) (by omega) ih
 exact jg.e0 _ _ hi (loop (sC 7 6 p).length 0 (Nat.zero_add _))
end rp
theorem Hh{q:Rat}{m:Int}(h1:(m:Rat)≤q)(h2:q<((m+1:Int):Rat)):q.floor=m:=by
 have a:=Rat.floor_le q
 have b:=Rat.lt_floor_add_one q
 have c:((m:Int):Rat)<((q.floor+1:Int):Rat):=by grind
 have d:((q.floor:Int):Rat)<((m+1:Int):Rat):=by grind
 have c:=Rat.intCast_lt_intCast.1 c
 have d:=Rat.intCast_lt_intCast.1 d
 omega
theorem NI{t:Nat}(ht:t≤64):wl (((2^t:Nat):Int))≤4:=qL (by
 rw[Int.natAbs_natCast]
 have:2^t≤2^64:=Nat.pow_le_pow_right (by omega) ht
 omega)
theorem E9(m n:Int)(b:Nat):grQ m b+grQ n b=grQ (m+n) b:=by
 refine ph (c:=twP b) (by have:=bU b;grind) ?_
 rw[Rat.add_mul,iX,iX,iX,Rat.intCast_add]
namespace vY
theorem XM{x:Rat}{h:Nat}(hx:ht x≤h)(hh:h≤67108864){b:Nat}(hb:b≤64):Cp 140 [(aJ x).pv,vI (b:Int)] (.aB [(aJ (grQ (x*twP b).floor b)).pv,vI 0]):=by
 have Ux:=eF x
 have Pg:=eP x
 have Ja:(x.den:Int)≠0:=by have:=x.den_nz;omega
 have fin:eY.ah (b:Int) b (aJ x) (Sym.whole ((2^b:Nat):Int)) (.aB [(aJ (grQ (x*twP b).floor b)).pv,vI 0]):=by
  have hp:=uo.jN (aJ x) (zS (by omega))
  rw[bl] at hp
  have w2:=NI hb
  have m:=tE.Mul (Sym.whole x.num) (Sym.whole ((2^b:Nat):Int)) (show wl _≤_ by omega) (show wl _≤_ by omega)
  rw[aw,aw] at m
  have wm:=dS x.num ((2^b:Nat):Int)
  have d:=tE.Div (Sym.whole (x.num*((2^b:Nat):Int))) (Sym.whole (x.den:Int)) (show wl _≤_ by omega) (show wl _≤_ by omega) (by rw[aw];exact Ja)
  rw[aw,aw] at d
  have wf:wl (x.num*((2^b:Nat):Int)/(x.den:Int))≤1099511627776:=by
   have h1:=BO (x.num*((2^b:Nat):Int))
   have h2:(x.num*((2^b:Nat):Int)/(x.den:Int)).natAbs≤(x.num*((2^b:Nat):Int)).natAbs:=Int.natAbs_ediv_le_natAbs _ _
   have h3:wl (x.num*((2^b:Nat):Int)/(x.den:Int))≤wl (x.num*((2^b:Nat):Int)):=mC (by omega)
   omega
  have f:=uo.It (Sym.whole (x.num*((2^b:Nat):Int)/(x.den:Int))) (Sym.whole ((2^b:Nat):Int)) (show wl _≤_ by omega) (show wl _≤_ by omega) (by rw[aw];have:=two_pos b;omega)
  rw[aw,aw] at f
  have e:(x*twP b).floor=x.num*((2^b:Nat):Int)/(x.den:Int):=by
   have hx:=GK x
   have dp:(0:Rat)<((x.den:Int):Rat):=by have:=GL x;grind
   have e1:x*twP b*((x.den:Int):Rat)=((x.num*((2^b:Nat):Int):Int):Rat):=by
    rw[Rat.intCast_mul,←hx]
    show x*twP b*_=x*_*twP b
    grind
   have hd:(0:Int)<(x.den:Int):=by have:=x.den_pos;omega
   have key:∀m:Int,(m:Rat)*((x.den:Int):Rat)=((m*(x.den:Int):Int):Rat):=fun m=>(Rat.intCast_mul _ _).symm
   generalize x.num*((2^b:Nat):Int)=n at *
   generalize (x.den:Int)=D at *
   have q1:=Int.mul_ediv_self_le (x:=n) (k:=D) (by omega)
   have q2:=Int.lt_mul_ediv_self_add (x:=n) (k:=D) hd
   refine Hh ?_ ?_
   ·refine Rat.not_lt.1 fun ba => ?_
    have:=Rat.mul_lt_mul_of_pos_right ba dp
    rw[e1,key] at this
    have:=Rat.intCast_lt_intCast.1 this
    rw[Int.mul_comm] at this
    omega
   ·refine Rat.not_le.1 fun hle => ?_
    have:=Rat.mul_le_mul_of_nonneg_right hle (Rat.le_of_lt dp)
    rw[e1,key] at this
    have:=Rat.intCast_le_intCast.1 this
    rw[Int.add_mul,Int.mul_comm] at this
    omega
  rw[←e] at d f
  exact eY.cR _ b (aJ x) _ _ _ _ _ _ 0 _ 0 (by omega) hp m d f
 have loop:∀d t:Nat,t+d=b→eY.ah (b:Int) t (aJ x) (Sym.whole ((2^t:Nat):Int)) (.aB [(aJ (grQ (x*twP b).floor b)).pv,vI 0]):=by
  intro d
  induction d with
  |zero =>
   intro t h
   have:t=b:=by omega
   subst this
   exact fin
  |succ d ih =>
   intro t h
   have hw:=NI (t:=t) (by omega)
   have ha:=tE.Add (Sym.whole ((2^t:Nat):Int)) (Sym.whole ((2^t:Nat):Int)) (show wl _≤_ by omega) (show wl _≤_ by omega)
   rw[aw,show((2^t:Nat):Int)+((2^t:Nat):Int)=((2^(t+1):Nat):Int) by rw[Nat.pow_succ];omega] at ha
   exact eY.l10 _ t (aJ x) _ _ (by omega) ha (by omega) (ih (t+1) (by omega))
 exact eY.e2 (aJ x) _ _ (by omega) (by omega) uo.one (loop b 0 (by omega))
theorem GD {b : Nat} (hb : b ≤ 64) : Cp 71 [vI (b : Int)] (aJ (grQ 1 b)).pv := by
  have UD : ∀ t : Nat, grQ 1 t / 2 = grQ 1 (t + 1) := fun t => by
    refine ph (c := twP (t + 1)) (by have := bU (t + 1); grind) ?_
    rw [iX, cF]
    have := iX 1 t
    rw [Rat.div_def]
    have : (2 : Rat) * 2⁻¹ = 1 := Rat.mul_inv_cancel 2 (by decide)
    grind
  have loop : ∀ d t : Nat, t + d = b → fN.ah (b : Int) t (aJ (grQ 1 t)) (aJ 2) (aJ (grQ 1 b)).pv := by
    intro d
    induction d with
    | zero =>
      intro t h
      have : t = b := by omega
      subst this
      exact fN.cR _ t _ _ (by omega)
    | succ d ih =>
      intro t h
      have h1 := mY (n := 1) (b := t) (by decide) (by omega)
      have hd := QR.Div (grQ 1 t) 2 (by omega) (by have : ht 2 = 1 := by decide
                                                   omega) (by decide)
      rw [UD] at hd
      exact fN.l10 _ t _ _ _ 0 (by omega) hd (by omega) (ih (t + 1) (by omega))
  have e1 : grQ 1 0 = 1 := by decide +kernel
  have := loop b 0 (by omega)
  rw [e1] at this
  exact fN.e0 _ _ _ (uo.Of 1 ⟨by decide, by decide⟩) (uo.Of 2 ⟨by decide, by decide⟩) this
def mE(f:List Rat)(lo hi:Rat)(n:Int)(b:Nat):ai:=if aP f lo hi (grQ n b)=0 then gI (grQ n b) (grQ n b) else gI (grQ n b) (grQ (n+1) b)
section
variable {f:List Rat} {xu xx:Rat} {n:Int} {b:Nat}
theorem yz(F:Sm f)(hb:b≤64)(PB:n.natAbs<2^100){lo hi:Rat}(A:dW f lo hi)(e:aP f lo hi=aP f xu xx)(n1:0≤aP f xu xx (grQ n b))(n2:aP f xu xx (grQ (n+1) b) = -1)(A0:dW f xu xx)(h1:ht lo≤2000)(h2:ht hi≤2000)(b1:ab lo≤twP 32)(b2:ab hi≤twP 32) :
  (br.ah (b:Int) (dN f lo hi) (mE f xu xx n b).pv∧(hi-lo≤grQ 1 b→grQ (lo*twP b).floor b=lo→True)) ∨
  ((lo*twP b).floor+1≤n∧lo<grQ ((lo*twP b).floor+1) b∧aP f lo hi (grQ ((lo*twP b).floor+1) b)=1∧((hi-lo≤grQ 1 b→br.ah (b:Int) (dN f (grQ ((lo*twP b).floor+1) b) hi) (mE f xu xx n b).pv→br.ah (b:Int) (dN f lo hi) (mE f xu xx n b).pv) ∧
   (grQ 1 b<hi-lo→ht (midQ lo hi)≤2000→br.ah (b:Int) (dN f (dY f lo hi).1 (dY f lo hi).2) (mE f xu xx n b).pv→br.ah (b:Int) (dN f lo hi) (mE f xu xx n b).pv))):=by
 have hle:=A.le
 have g:=XM (x:=lo) h1 (by omega) hb
 have pw:=GD hb
 have S0:grQ (lo*twP b).floor b≤lo:=yx.2 (Rat.floor_le _)
 have Y8:lo<grQ ((lo*twP b).floor+1) b:=IS.2 (Rat.lt_floor_add_one _)
 generalize hm:(lo*twP b).floor=m at *
 have c0:0≤aP f lo hi (grQ m b):=nL A S0
 have Vm:m≤n:=by
  refine Int.not_lt.1 fun ba => ?_
  have XL:=Hg (b:=b) (show n+1≤m by omega)
  rw[e] at c0
  by_cases q:grQ (n+1) b=grQ m b
  ·rw[←q] at c0;omega
  ·have:=A0.mono (x:=grQ (n+1) b) (y:=grQ m b) (by grind) (by omega)
   omega
 have Y9:m.natAbs<2^100:=by
  have a1:=lF lo
  have a2:=dO lo
  have p:=bU b
  have pb:twP b≤twP 64:=bx hb
  have u2:((-((2^97:Nat):Int):Int):Rat)<((m+1:Int):Rat):=by
   have k1:=(IS.1 Y8)
   have k2 : -(twP 96)≤lo*twP b:=by
    have:=cG b1 pb (bn lo) (Rat.le_of_lt (bU 64))
    rw[←fT] at this
    have e2:ab (lo*twP b)≤twP 96:=by
     rw[fS]
     have e:ab (twP b)=twP b:=by rcases bb (twP b) with k|k<;>grind
     rw[e]
     exact this
    have:=dO (lo*twP b)
    grind
   have e3:twP 96+twP 96=(((2^97:Nat):Int):Rat):=(cF 96).symm
   have p96:=bU 96
   rw[Rat.intCast_neg,←e3]
   grind
  have v2:=Rat.intCast_lt_intCast.1 u2
  omega
 have hgm:=mY (n:=m) (b:=b) (by omega) hb
 have hgu:=mY (n:=m+1) (b:=b) (by omega) hb
 have WW:=mY (n:=1) (b:=b) (by decide) hb
 have ad:=QR.Add (grQ m b) (grQ 1 b) (by omega) (by omega)
 rw[E9] at ad
 have w0:=sj hi lo
 have Kx:∀x0:Rat,ht x0≤900→Cp 72 [(dN f lo hi).pv,(aJ x0).pv] (vI (aP f lo hi x0)):=fun x0 hx =>
  AA (K:=1000000) F A (Dy.start lo hi) (Of (v:=x0) (by omega)) (show 1≤900 by omega) hx (by omega) (by omega) (by omega) b1 b2
 have Vq:∀k:Int,k.natAbs<2^101→ht (grQ k b)≤900:=fun k hk=>by
  unfold grQ
  rw[Rat.divInt_eq_div]
  have w:wl k≤4:=qL (Nat.lt_of_lt_of_le hk (by decide))
  have x1:=nV ((k:Int):Rat) ((((2^b:Nat):Int)):Rat)
  have x2:ht ((k:Int):Rat)≤4:=by rw[tF];omega
  have x3:ht ((((2^b:Nat):Int)):Rat)≤3:=tQ (j:=b) (by omega)
  omega
 have r1:=Kx (grQ m b) (Vq m (by omega))
 have r2:=Kx (grQ (m+1) b) (Vq (m+1) (by omega))
 have uniq:∀k:Int,0≤aP f lo hi (grQ k b)→aP f lo hi (grQ (k+1) b) = -1→k=n:=fun k k1 k2=>vZ A0 (by rw[←e];exact k1) (by rw[←e];exact k2) n1 n2
 by_cases q1:aP f lo hi (grQ m b)=0
 ·left
  refine⟨?_,fun _ _=>trivial⟩
  have:=uniq m (by omega) (A.mono (x:=grQ m b) (by grind) (by omega))
  subst this
  have:=br.l10 _ (dN f lo hi) _ _ _ _ _ g pw ad r1 q1
  unfold mE
  rw[if_pos (by rw[←e];exact q1)]
  exact this
 ·have q1':aP f lo hi (grQ m b)=1:=by rcases A.three (grQ m b) with k|k|k<;>omega
  rcases A.three (grQ (m+1) b) with q2|q2|q2
  ·right
   have XN:m+1≤n:=by
    refine Int.not_lt.1 fun ba => ?_
    have:m=n:=by omega
    rw[e,this,n2] at q2
    omega
   refine⟨XN,Y8,q2,fun hw hL => ?_,fun hw KW hL => ?_⟩
   ·have wd:=Fm.Qp lo hi (by omega) (by omega) hle
    have cw:=QR.o9 (hi-lo) (grQ 1 b) (by omega) (by omega)
    exact br.tq _ (dN f lo hi) _ _ _ _ _ _ _ _ g pw ad r1 q1 r2 (by omega) (by omega) wd cw (qq.2 hw) hL
   ·have wd:=Fm.Qp lo hi (by omega) (by omega) hle
    have cw:=QR.o9 (hi-lo) (grQ 1 b) (by omega) (by omega)
    have hh:=half F A (by omega) (by omega) (by omega)
    exact br.Ew _ (dN f lo hi) _ _ _ _ _ _ _ _ _ g pw ad r1 q1 r2 (by omega) (by omega) wd cw (by rw[mo hw];omega) hh hL
  ·left
   refine⟨?_,fun _ _=>trivial⟩
   have UE:grQ (m+1) b<grQ (m+1+1) b:=by
    rw[←E9 (m+1) 1]
    have:0<grQ 1 b:=by
     refine Rat.not_le.1 fun hh => ?_
     have:=Rat.mul_le_mul_of_nonneg_right hh (Rat.le_of_lt (bU b))
     rw[iX,Rat.zero_mul] at this
     exact absurd this (by decide)
    grind
   have:=uniq (m+1) (by omega) (A.mono UE (by omega))
   have hn:br.ah (b:Int) (dN f lo hi) (gI (grQ (m+1) b) (grQ (m+1) b)).pv:=br.cR _ (dN f lo hi) _ _ _ _ _ _ g pw ad r1 q1 r2 q2
   rw[this] at hn
   unfold mE
   rw[if_pos (by rw[←e,←this];exact q2)]
   exact hn
  ·left
   refine⟨?_,fun _ _=>trivial⟩
   have:=uniq m (by omega) q2
   subst this
   have hn:br.ah (b:Int) (dN f lo hi) (gI (grQ m b) (grQ (m+1) b)).pv:=br.kM _ (dN f lo hi) _ _ _ _ _ _ g pw ad r1 q1 r2 (by omega) q2
   unfold mE
   rw[if_neg (by rw[←e];exact q1)]
   exact hn
theorem Hi(F:Sm f)(hb:b≤64)(PB:n.natAbs<2^100){lo hi:Rat}(A:dW f lo hi)(e:aP f lo hi=aP f xu xx)(n1:0≤aP f xu xx (grQ n b))(n2:aP f xu xx (grQ (n+1) b) = -1)(A0:dW f xu xx)(h1:ht lo≤2000)(h2:ht hi≤2000)(b1:ab lo≤twP 32)(b2:ab hi≤twP 32)(hw:hi-lo≤grQ 1 b) :
  br.ah (b:Int) (dN f lo hi) (mE f xu xx n b).pv:=by
 rcases yz F hb PB A e n1 n2 A0 h1 h2 b1 b2 with h|⟨s1,s2,s3,s4, -⟩
 ·exact h.1
 ·refine s4 hw ?_
  generalize (lo*twP b).floor=m at *
  have hle:=A.le
  have UE:grQ (m+1) b<hi:=by
   refine Rat.not_le.1 fun hh => ?_
   by_cases q:hi=grQ (m+1) b
   ·have:=A.tN;rw[←q] at s3;omega
   ·have:=A.mono (x:=hi) (y:=grQ (m+1) b) (by grind) A.tN
    omega
  have ba:lo<hi:=by grind
  obtain⟨B,eB⟩:=A.sub (u:=grQ (m+1) b) (v:=hi) (Rat.le_of_lt s2) Rat.le_refl (Or.inr ⟨UE,s3,A.high ba Rat.le_refl⟩)
  have Y9:(m+1).natAbs<2^101:=by
   have k1:(m:Rat)+1≤twP 96:=by
    have:grQ (m+1) b*twP b≤twP 32*twP 64:=by
     have x1:grQ (m+1) b≤twP 32:=by have:=lF hi;grind
     have x2:=Rat.mul_le_mul_of_nonneg_right x1 (Rat.le_of_lt (bU b))
     have x3:=Rat.mul_le_mul_of_nonneg_left (bx hb) (Rat.le_of_lt (bU 32))
     grind
    rw[iX,←fT,Rat.intCast_add] at this
    exact this
   have k2 : -(twP 96)≤(m:Rat)+1:=by
    have : -(twP 32*twP 64)≤grQ (m+1) b*twP b:=by
     have x1 : -(twP 32)≤grQ (m+1) b:=by have:=dO lo;grind
     have x2:=Rat.mul_le_mul_of_nonneg_right x1 (Rat.le_of_lt (bU b))
     have x3:=Rat.mul_le_mul_of_nonneg_left (bx hb) (Rat.le_of_lt (bU 32))
     grind
    rw[iX,←fT,Rat.intCast_add] at this
    exact this
   have e96:twP 96=(((2^96:Nat):Int):Rat):=rfl
   rw[e96] at k1 k2
   have k1:((m+1:Int):Rat)≤(((2^96:Nat):Int):Rat):=by rw[Rat.intCast_add];exact k1
   have k2:((-((2^96:Nat):Int):Int):Rat)≤((m+1:Int):Rat):=by rw[Rat.intCast_add,Rat.intCast_neg];exact k2
   have:=Rat.intCast_le_intCast.1 k1
   have:=Rat.intCast_le_intCast.1 k2
   omega
  have hg:=mY (n:=m+1) (b:=b) Y9 hb
  have bm:=aY (Rat.le_of_lt s2) (Rat.le_of_lt UE) b1 b2
  rcases yz F hb PB B (by rw[funext eB,e]) n1 n2 A0 (by omega) h2 bm b2 with h|⟨t1,t2,t3, -⟩
  ·exact h.1
  ·exfalso
   have fl:(grQ (m+1) b*twP b).floor=m+1:=by
    rw[iX]
    exact Hh Rat.le_refl (Rat.intCast_lt_intCast.2 (by omega))
   rw[fl] at t3
   have e2:grQ (m+1+1) b=grQ (m+1) b+grQ 1 b:=(E9 (m+1) 1 b).symm
   have:=B.high UE (x:=grQ (m+1+1) b) (by grind)
   omega
theorem Iq{a:aH}(A:Acc a f xu xx)(hb:b≤64)(PB:n.natAbs<2^100)(n1:0≤aP f xu xx (grQ n b))(n2:aP f xu xx (grQ (n+1) b) = -1):Cp 68 [a.pv,vI (b:Int)] (mE f xu xx n b).pv:=by
 have hh1:=A.h1
 have hh2:=A.h2
 have aaw:=sj xx xu
 have key:∀(d k:Nat) (lo hi:Rat),d+k=97→Dy xu (xx-xu) k lo hi→dW f lo hi→aP f lo hi=aP f xu xx→xu≤lo→hi≤xx→(hi-lo)*twP b≤twP d→br.ah (b:Int) (dN f lo hi) (mE f xu xx n b).pv:=by
  intro d
  induction d with
  |zero =>
   intro k lo hi hk D B e l1 l2 hw
   obtain⟨d1,d2⟩:=D.ht
   have hle:=B.le
   refine Hi A.sm hb PB B e n1 n2 A.wa (by omega) (by omega) (aY l1 (by grind) A.bd.1 A.bd.2) (aY (by grind) l2 A.bd.1 A.bd.2) ?_
   refine Rat.not_lt.1 fun ba => ?_
   have:=Rat.mul_lt_mul_of_pos_right ba (bU b)
   rw[iX] at this
   rw[mn] at hw
   have e1:((1:Int):Rat)=1:=rfl
   rw[e1] at this
   grind
  |succ d ih =>
   intro k lo hi hk D B e l1 l2 hw
   obtain⟨d1,d2⟩:=D.ht
   have hle:=B.le
   have c1:=aY l1 (show lo≤xx by grind) A.bd.1 A.bd.2
   have c2:=aY (show xu≤hi by grind) l2 A.bd.1 A.bd.2
   by_cases hs:hi-lo≤grQ 1 b
   ·exact Hi A.sm hb PB B e n1 n2 A.wa (by omega) (by omega) c1 c2 hs
   ·rcases yz A.sm hb PB B e n1 n2 A.wa (by omega) (by omega) c1 c2 with h|⟨-, -, -, -,s5⟩
    ·exact h.1
    ·obtain⟨g1,g2,g3,g4,g5⟩:=fy B
     have p1:0<grQ 1 b:=by
      refine Rat.not_le.1 fun hh => ?_
      have:=Rat.mul_le_mul_of_nonneg_right hh (Rat.le_of_lt (bU b))
      rw[iX,Rat.zero_mul] at this
      exact absurd this (by decide)
     refine s5 (by grind) (by have:=D.kt (show lo≠hi by grind);omega) (ih (k+1) _ _ (by omega) (D.half f) g1 (by rw[rq B,e]) (by grind) (by grind) ?_)
     rw[cF] at hw
     have:=Rat.mul_le_mul_of_nonneg_right g5 (Rat.le_of_lt (bU b))
     grind
 have w1:(xx-xu)*twP b≤twP 97:=by
  have CM:twP 32+twP 32=twP 33:=(cF 32).symm
  have x1:=lF xx
  have x2:=dO xu
  have x3:=A.bd.1
  have x4:=A.bd.2
  have hw:xx-xu≤twP 33:=by grind
  have hle:=A.wa.le
  have:=cG hw (bx hb) (by grind) (Rat.le_of_lt (bU 64))
  rwa[←fT] at this
 have:=key 97 0 xu xx (by omega) (Dy.start _ _) A.wa rfl Rat.le_refl Rat.le_refl w1
 rw[←A.e] at this
 exact br.e0 a _ this
end
end vY
end Go.Proofs.YtllmkadmohkbfaaGreatDoor.Sym
