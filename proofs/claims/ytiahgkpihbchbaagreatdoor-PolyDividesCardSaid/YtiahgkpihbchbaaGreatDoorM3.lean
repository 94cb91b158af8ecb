/- The statement PolyDivides is proved, its tables tied: quotients, divisors, derivatives and square-free parts are what is specified; no condition. -/
import Derived.Test.YtiahgkpihbchbaaGreatDoorM2
import Derived.Test.YtiahgkpihbchbaaGreatDoorRows
import Derived.Test.YtiahgkpihbchbaaGreatDoorCards
import Derived.Test.YtiahgkpihbchbaaGreatDoorTie
import Derived.Deep.DeepHandedRow
import Derived.SevenTiedAt
import Derived.LaidLaws
import Derived.Test.YtiahgkpihbchbaaGreatDoorM0
import Derived.JoinedCond
namespace Go.Proofs.YtiahgkpihbchbaaGreatDoor.Sym
open Go Path CInt
set_option linter.unusedVariables false
theorem ratT_int(n:Int):ratT (n:Rat)=numT n:=by
 unfold ratT
 rw[if_pos (by rw[Rat.den_intCast];rfl),Rat.num_intCast]
namespace C05
abbrev exA:List Rat:=[((2:Int):Rat),((-3:Int):Rat),((1:Int):Rat)]
abbrev exB:List Rat:=[((-1:Int):Rat),((1:Int):Rat)]
abbrev exC:List Rat:=[((2:Int):Rat),((-3:Int):Rat),((0:Int):Rat),((1:Int):Rat)]
theorem textA:Contract prg 21 [pq exA] (.tup [.str (ByteArray.mk #[49,32,120,94,50,32,43,32,45,51,32,120,32,43,32,50]),.nilI]):=by
 have fA:Fl 1 exA:=by decide +kernel
 have hck:=CPo.Check (exA.map mkR) (fitQ fA (by omega))
 rw[chk_map (by decide +kernel) (by decide)] at hck
 have t1:=CTx.fText_small ((1:Int):Rat) (by decide) (by decide)
 have t2:=CTx.fText_small ((2:Int):Rat) (by decide) (by decide)
 have t3:=CTx.fText_small ((-3:Int):Rat) (by decide) (by decide)
 have n1:numT 1=ByteArray.mk #[49]:=by unfold numT;rw[if_neg (by decide),show(1:Int).natAbs=1 from rfl,dig_small (by omega)];rfl
 have n2:numT 2=ByteArray.mk #[50]:=by unfold numT;rw[if_neg (by decide),show(2:Int).natAbs=2 from rfl,dig_small (by omega)];rfl
 have n3:numT (-3)=ByteArray.mk #[45,51]:=by unfold numT;rw[if_pos (by decide),show(-3:Int).natAbs=3 from rfl,dig_small (by omega)];decide +kernel
 rw[ratT_int,n1] at t1
 rw[ratT_int,n2] at t2
 rw[ratT_int,n3] at t3
 have i2:=Itoa_small 2 (by omega)
 rw[dig_small (by omega),show UInt8.ofNat (48+2)=50 from rfl] at i2
 have s1:=QF.Sign ((1:Int):Rat) (by decide)
 have s2:=QF.Sign ((2:Int):Rat) (by decide)
 have s3:=QF.Sign ((-3:Int):Rat) (by decide)
 have hj:=Join [ByteArray.mk #[49]++ByteArray.mk #[32,120]++(ByteArray.mk #[94]++ByteArray.mk #[50]),ByteArray.mk #[45,51]++ByteArray.mk #[32,120],ByteArray.mk #[50]] (ByteArray.mk #[32,43,32]) (by simp) (by decide +kernel)
 have ej:joinB [ByteArray.mk #[49]++ByteArray.mk #[32,120]++(ByteArray.mk #[94]++ByteArray.mk #[50]),ByteArray.mk #[45,51]++ByteArray.mk #[32,120],ByteArray.mk #[50]] (ByteArray.mk #[32,43,32])=ByteArray.mk #[49,32,120,94,50,32,43,32,45,51,32,120,32,43,32,50]:=by decide +kernel
 rw[ej] at hj
 have e:(((exA.map mkR).length:Nat):Int)-1=2:=rfl
 have l3:=poly_Text.l15 (exA.map mkR) _ (0-1) _ (by omega) hj
 have l2:=poly_Text.l14 (exA.map mkR) [ByteArray.mk #[49]++ByteArray.mk #[32,120]++(ByteArray.mk #[94]++ByteArray.mk #[50]),ByteArray.mk #[45,51]++ByteArray.mk #[32,120]] 0 0 (mkR ((2:Int):Rat)) _ 0 (mkR ((2:Int):Rat)) _ (by omega) rfl rfl s2 (by decide +kernel) rfl rfl t2 (by omega) (by omega) (by simp) (by unfold InI64;omega) l3
 have l1:=poly_Text.l12 (exA.map mkR) [ByteArray.mk #[49]++ByteArray.mk #[32,120]++(ByteArray.mk #[94]++ByteArray.mk #[50])] (2-1) 1 (mkR ((-3:Int):Rat)) _ 1 (mkR ((-3:Int):Rat)) _ (by omega) rfl rfl s3 (by decide +kernel) rfl rfl t3 (by omega) (by decide) (by omega) (by simp) (by unfold InI64;omega) l2
 have l0:=poly_Text.l11 (exA.map mkR) [] 2 2 (mkR ((1:Int):Rat)) _ 2 (mkR ((1:Int):Rat)) _ _ (by omega) rfl rfl s1 (by decide +kernel) rfl rfl t1 (by omega) (by decide) (by omega) i2 (by decide) (by decide +kernel) (by simp) (by unfold InI64;omega) l1
 exact poly_Text.e1 _ hck (by decide) (by rw[e];unfold InI64;omega) (by rw[e];exact l0)
theorem throughA:Contract prg 14 [pq [((0:Int):Rat),((1:Int):Rat),((2:Int):Rat)],pq [((1:Int):Rat),((2:Int):Rat),((5:Int):Rat)]] (.tup [pq [((1:Int):Rat),((0:Int):Rat),((1:Int):Rat)],.nilI]):=by
 have vm:∀q:List Rat,∀a∈q.map mkR,a.valid=true:=fun q a ha=>by
  obtain⟨x,_,rfl⟩:=List.mem_map.1 ha
  exact mkR_valid x
 have f1:FitP 1 ([((0:Int):Rat),((1:Int):Rat),((2:Int):Rat)].map mkR):=fit_mapk (by decide +kernel)
 have f2:FitP 1 ([((1:Int):Rat),((2:Int):Rat),((5:Int):Rat)].map mkR):=fit_mapk (by decide +kernel)
 have hd:∀j,j<3→∀i,i<j→coef [((0:Int):Rat),((1:Int):Rat),((2:Int):Rat)] i≠coef [((0:Int):Rat),((1:Int):Rat),((2:Int):Rat)] j:=by decide +kernel
 have h:=CTh.Through_ok f1 f2 (by decide) rfl (vm _) (vm _) (by
  intro i j h1 h2
  rw[vals_mkR]
  exact hd j h2 i h1)
 rw[vals_mkR,vals_mkR] at h
 have e:outN (coef [((0:Int):Rat),((1:Int):Rat),((2:Int):Rat)]) (coef [((1:Int):Rat),((2:Int):Rat),((5:Int):Rat)]) ([((0:Int):Rat),((1:Int):Rat),((2:Int):Rat)].map mkR).length=[((1:Int):Rat),((0:Int):Rat),((1:Int):Rat)]:=by decide +kernel
 rwa[e] at h
theorem awake:Contract prg 13 [] (vB true):=by
 have a1:=of [2, -3,1] (by unfold InI64;decide) (by decide)
 have a2:=of [-1,1] (by unfold InI64;decide) (by decide)
 have a3:=of [2, -3,0,1] (by unfold InI64;decide) (by decide)
 have a4:=of [0,1,2] (by unfold InI64;decide) (by decide)
 have a5:=of [1,2,5] (by unfold InI64;decide) (by decide)
 have a6:=of [-2,1] (by unfold InI64;decide) (by decide)
 have a7:=of [-2,1,1] (by unfold InI64;decide) (by decide)
 have a8:=of [1,0,1] (by unfold InI64;decide) (by decide)
 have fA:Fl 1 exA:=by decide +kernel
 have fB:Fl 1 exB:=by decide +kernel
 have fC:Fl 1 exC:=by decide +kernel
 have hd:=PQ.Div (h:=4) (b:=3) exA exB (by decide +kernel) (by decide +kernel) (by simp) (by decide) (by decide) (Ch.of_fl fA) (Ch.of_fl fB) (by omega) (by omega) (by decide)
 have ed1:(divL exA exB).1=[((-2:Int):Rat),((1:Int):Rat)]:=by decide +kernel
 have ed2:(divL exA exB).2=[]:=by decide +kernel
 rw[ed1,ed2] at hd
 have hF:=PQ.Free (h:=5) (L:=4) (p:=exC) ⟨by decide +kernel,by simp,by decide,Ch.of_fl fC,by omega,by omega,by decide⟩
 have eF:freeL exC=[((-2:Int):Rat),((1:Int):Rat),((1:Int):Rat)]:=by decide +kernel
 rw[eF] at hF
 have s1:=same [((-2:Int):Rat),((1:Int):Rat)] (by decide) (by decide +kernel)
 have s2:=same [((-2:Int):Rat),((1:Int):Rat),((1:Int):Rat)] (by decide) (by decide +kernel)
 have s3:=same [((1:Int):Rat),((0:Int):Rat),((1:Int):Rat)] (by decide) (by decide +kernel)
 exact linkworklaw05_awake.e0 _ _ _ _ _ _ _ _ _ _ _ _ _ _ _ _ _ a1 a2 hd a1 textA a3 hF a4 a5 throughA a6 s1 rfl rfl rfl a7 s2 rfl a8 s3
end C05
end Go.Proofs.YtiahgkpihbchbaaGreatDoor.Sym

namespace Go.Proofs.YtiahgkpihbchbaaGreatDoor.Sym
open Go Path CInt
set_option linter.unusedVariables false
namespace C05
theorem S5.pv{p:List ARat}(s:S5 p):pq (vals p)=polyPV p:=by unfold pq;rw[s.ep]
def Two(f g:FuncId)(args:List PV):Prop:=∃(q:List Rat) (e:Option Int),Contract prg f args (.tup [pq q,errPV e])∧Contract prg g args (.tup [pq q,vI (e.getD 0)])∧q.length≤1000∧Fl 68719476736 q
theorem Two.err{f g:FuncId}{args:List PV}(n:Int)(h1:Contract prg f args (.tup [polyPV [],errPV (some n)]))(h2:Contract prg g args (.tup [polyPV [],vI n])):Two f g args :=
 ⟨[],some n,h1,h2,by simp,fun x hx=>by cases hx⟩
theorem Two.ok{f g:FuncId}{args:List PV}(q:List Rat)(h1:Contract prg f args (.tup [pq q,.nilI]))(h2:Contract prg g args (.tup [pq q,vI 0]))(hl:q.length≤1000)(hf:Fl 68719476736 q):Two f g args :=
 ⟨q,none,h1,h2,hl,hf⟩
variable {p q:List ARat} {c:ARat}
theorem xB10:4*xB 10 120 (9+2)+10≤68719476736∧xB 10 120 (9+1)≤68719476736:=by decide
theorem gcdL_any{h b c L:Nat}(h1:1≤h)(hb1:1≤b)(hbc:b≤c)(hc:h+(L+1)*(b+1)≤c)(p q:List Rat)(zp:lastZ p=false)(zq:lastZ q=false)(lp:p.length≤L)(lq:q.length≤L)(hp:Ch h p)(hq:Ch b q):Ch (xB b c (L+1)) (gcdL p q):=by
 have e1:=xB_le b c hbc (i:=1) (j:=L+1) (by omega)
 have e0:xB b c 1=c:=rfl
 have hm:(p.length+1-q.length)*(b+1)≤(L+1)*(b+1):=Nat.mul_le_mul_right _ (by omega)
 unfold gcdL
 refine Ch.monic ?_ (by omega) (gcdF_trim _ _ _ zp zq)
 rw[gcdF]
 by_cases h0:q.length=0
 ·rw[beq_iff.2 h0,cond_true];exact hp.mono (by omega)
 ·have hne:q≠[]:=fun e=>h0 (by rw[e];rfl)
  rw[beq_fal.2 h0,cond_false]
  have hr:=hp.rest hq zq hne
  have hrl:(restL p q).length<q.length:=(divL_spec p zq hne).1
  have hz:=restL_trim p q
  have hr1:Ch c (restL p q):=hr.mono (by omega)
  exact gcdF_Ch hb1 hbc q.length 0 1 q _ ⟨hq,hr1.monic (by omega) hz,by omega,by rw[monicL_len hz];exact hrl,by omega,zq,monicL_trim _⟩
theorem gcdL_len(p q:List Rat)(zp:lastZ p=false)(zq:lastZ q=false):(gcdL p q).length≤max p.length q.length:=by
 obtain⟨d1,d2⟩:=gcdL_dv p q zp zq
 by_cases hp:p=[]
 ·by_cases hq:q=[]
  ·subst hp;subst hq;decide +kernel
  ·have:=(d2.len (gcdL_trim p q) zq hq).2
   omega
 ·have:=(d1.len (gcdL_trim p q) zp hp).2
  omega
theorem tGcd(hp:ShP p)(hq:ShP q):Two 28 32 [polyPV p,polyPV q]:=by
 have k1:=CPl.checks2 p q (hp.fit (by omega)) (hq.fit (by omega))
 have k2:=CPr.both p q (hp.fit (by omega)) (hq.fit (by omega))
 by_cases h:chk2 p q=0
 ·obtain⟨a,b⟩:=chk2_parts h
  have s:=hp.s5 a
  have u:=hq.s5 b
  have ls:=s.len
  have lu:=u.len
  have h1:=PQ.Gcd (L:=9) (by omega) (by omega) (by omega) (by omega) (by omega) xB10.1 (vals p) (vals q) s.zp u.zp (by omega) (by omega) s.ch u.ch
  have h2:=RQ.Gcd (L:=9) (by omega) (by omega) (by omega) (by omega) (by omega) xB10.1 (vals p) (vals q) s.zp u.zp (by omega) (by omega) s.ch u.ch
  have hch:=gcdL_any (h:=10) (b:=10) (c:=120) (L:=9) (by omega) (by omega) (by omega) (by omega) (vals p) (vals q) s.zp u.zp (by omega) (by omega) s.ch u.ch
  rw[s.pv,u.pv] at h1 h2
  refine Two.ok _ h1 h2 ?_ ?_
  ·have:=gcdL_len (vals p) (vals q) s.zp u.zp;omega
  ·exact fl_mono (hch.fl (xB_pos (by omega) (by omega) _)) xB10.2
 ·rw[errOf_ne h] at k1
  exact Two.err _ (poly_Gcd.e1 _ _ _ k1) (linkworkref05_Gcd.e0 _ _ _ k2 h)
theorem tDerive(hp:ShP p):Two 29 33 [polyPV p]:=by
 have k1:=CPo.Check p (hp.fit (by omega))
 have k2:=CRe.Check p (hp.fit (by omega))
 by_cases h:chk p=0
 ·have s:=hp.s5 h
  have ls:=s.len
  have h1:=PQ.Derive (vals p) s.zp (by omega) s.fl (by omega)
  have h2:=RQ.Derive (vals p) s.zp (by omega) s.fl (by omega)
  rw[s.pv] at h1 h2
  refine Two.ok _ h1 h2 ?_ ?_
  ·have:=len_deriveL (vals p);omega
  ·exact fl_mono (fl_deriveL (by omega) s.fl) (by omega)
 ·rw[errOf_ne h] at k1
  exact Two.err _ (poly_Derive.e1 _ _ k1) (linkworkref05_Derive.e0 _ _ k2 h)
theorem tFree(hp:ShP p):Two 30 34 [polyPV p]:=by
 have k1:=CPo.Check p (hp.fit (by omega))
 have k2:=CRe.Check p (hp.fit (by omega))
 by_cases h:chk p=0
 ·have s:=hp.s5 h
  have ls:=s.len
  by_cases h0:vals p=[]
  ·have hl:p.length=0:=by rw[s.pl,h0];rfl
   rw[h] at k1
   exact Two.ok [] (poly_Free.e0 _ k1 hl) (linkworkref05_Free.e1 _ _ k2 h hl) (by simp) (fun x hx=>by cases hx)
  ·have f:=s.ffine h0
   have h1:=PQ.Free f
   have h2:=RQ.Free f
   rw[s.pv] at h1 h2
   have hb:=f.fb
   exact Two.ok _ h1 h2 (by have:=f.free_len;omega) (fl_mono (f.free_ch.fl hb.2.2.1) (by omega))
 ·rw[errOf_ne h] at k1
  exact Two.err _ (poly_Free.e2 _ _ k1) (linkworkref05_Free.e0 _ _ k2 h)
theorem tDiv(hp:ShP p)(hq:ShP q):∃(x r:List Rat) (e:Option Int),Contract prg 27 [polyPV p,polyPV q] (.tup [pq x,pq r,errPV e])∧Contract prg 31 [polyPV p,polyPV q] (.tup [pq x,pq r,vI (e.getD 0)])∧(x.length≤1000∧Fl 68719476736 x)∧r.length≤1000∧Fl 68719476736 r:=by
 have k1:=CPl.checks2 p q (hp.fit (by omega)) (hq.fit (by omega))
 have k2:=CPr.both p q (hp.fit (by omega)) (hq.fit (by omega))
 have nl:Fl 68719476736 []:=fun x hx=>by cases hx
 by_cases h:chk2 p q=0
 ·obtain⟨a,b⟩:=chk2_parts h
  have s:=hp.s5 a
  have u:=hq.s5 b
  have ls:=s.len
  have lu:=u.len
  by_cases h0:vals q=[]
  ·have hl:q.length=0:=by rw[u.pl,h0];rfl
   rw[h] at k1
   exact⟨[],[],some 8,poly_Div.e0 _ _ k1 hl,linkworkref05_Div.e1 _ _ _ k2 h hl,⟨by simp,nl⟩,by simp,nl⟩
  ·have hm:((vals p).length+1-(vals q).length)*(10+1)≤10*(10+1):=Nat.mul_le_mul_right _ (by omega)
   have h1:=PQ.Div (vals p) (vals q) s.zp u.zp h0 (by omega) (by omega) s.ch u.ch (by omega) (by omega) (by omega)
   have h2:=RQ.Div (vals p) (vals q) s.zp u.zp h0 (by omega) (by omega) s.ch u.ch (by omega) (by omega) (by omega)
   rw[s.pv,u.pv] at h1 h2
   have hq1:=ht_quot s.ch u.ch (by omega) (by omega) u.zp h0
   have hr1:=s.ch.rest u.ch u.zp h0
   have l1:=divL_len (p:=vals p) u.zp h0
   have l2:=(divL_spec (vals p) u.zp h0).1
   exact⟨_,_,none,h1,h2,⟨by omega,fl_mono hq1 (by omega)⟩,by omega,fl_mono (hr1.fl (by omega)) (by omega)⟩
 ·rw[errOf_ne h] at k1
  exact⟨[],[],some _,poly_Div.e2 _ _ _ k1,linkworkref05_Div.e0 _ _ _ k2 h,⟨by simp,nl⟩,by simp,nl⟩
theorem PolyDivides(p q:List ARat){A B:Prop}(_:A)(_:B):Contract prg 5 [polyPV p,polyPV q] (vB true):=by
 obtain⟨b1,h1,g1⟩:=short [p,q] (by simp)
 cases b1 with
 |false=>exact linkworklaw05_PolyDivides.e0 p q _ _ h1 rfl awake
 |true =>
  have hp:=g1 rfl p (by simp)
  have hq:=g1 rfl q (by simp)
  obtain⟨x,r,e,d1,d2,⟨d3,d4⟩,d5,d6⟩:=tDiv hp hq
  obtain⟨g,ge,a1,a2,a3,a4⟩:=tGcd hp hq
  obtain⟨d,de,b1,b2,b3,b4⟩:=tDerive hp
  obtain⟨f,fe,c1,c2,c3,c4⟩:=tFree hp
  exact linkworklaw05_PolyDivides.e2 p q _ _ _ _ _ _ _ _ _ _ _ _ _ _ _ _ _ _ _ _ _ _ _ _ _ _ _ _ _ h1 rfl awake rfl d1 a1 b1 c1 d2 a2 b2 c2 (CBa.Num e) rfl (same x d3 d4) rfl (same r d5 d6) rfl (CBa.Num ge) rfl (same g a3 a4) rfl (CBa.Num de) rfl (same d b3 b4) rfl (CBa.Num fe) rfl (same f c3 c4)
end C05
end Go.Proofs.YtiahgkpihbchbaaGreatDoor.Sym
namespace Go.Proofs.YtiahgkpihbchbaaGreatDoor.Sym
open Go Go.RowKit Go.ChangeShapes Go.WideShapes Go.ChangeAt
set_option linter.unusedVariables false
namespace RowPolyDivides
theorem own:ownKnob Tryz.prog.godebug=none:=by kernel_rfl
theorem laid:laidOutB prg=true:=by kernel_rfl
theorem okArg{P:Program}{W:World}{base:Nat}{ps:Array TypeId}{args:Array Value}(hval:∀(j:Nat) t v,ps[j]? = some t→args[j]? = some v→Value.okWide P W .any base t v)(j:Nat){t:TypeId}{v:Value}(h1:ps[j]? = some t)(h2:args[j]? = some v):Value.okWide P W .any base t v:=hval j t v h1 h2
set_option maxRecDepth 100000 in
theorem contract(H:Type)(enc:TypeId×Value→H)(W:World)(base:Nat)(args:Array Value)(ds gs:List (DataW H))(before:List MemPlace)
  (hval:∀(j:Nat) t v,Tryz.f5.params[j]? = some t→args[j]? = some v→Value.okWide Tryz.prog W .any base t v)
  (hW:DataW.Whole enc Tryz.prog Tryz.f5.params.toList Rows.polyDividesSpec.vars false W args.toList ds gs before)
  (hz:(DataW.weightsEach Tryz.prog (Tryz.f5.params.toList++Rows.polyDividesSpec.plain.varTypes Tryz.prog) (ds++gs)).all (·≤reachBytes)=true) :
  Calls Tryz.prog 5 args W fun e W'=>∃v,e = .returned v∧Rows.polyDividesSpec.post enc Tryz.prog Tryz.f5 false true false false W args v W':=by
 have hW':=hW
 obtain⟨p,q,hA,hV,rfl,hfz,hnd⟩:=hW
 have hp:Tryz.f5.params = #[25,25]:=by kernel_rfl
 rw[hp] at hA hval hz
 obtain⟨v0,vs0,d0,ds0,p0,q0,hargs,rfl,rfl,h0,r0⟩:=trodAll_cons hA
 obtain⟨v1,vs1,d1,ds1,p1,q1,rfl,rfl,rfl,h1,r1⟩:=trodAll_cons r0
 obtain⟨rfl,rfl,rfl⟩:=trodAll_nil r1
 obtain rfl:args = #[v0,v1]:=by cases args;simp_all
 obtain⟨rfl,rfl⟩:=trodVars_none hV
 obtain⟨n0,hn0⟩:=h0
 have hw0:∀k∈d0.weights prg 25,k≤reachBytes:=by
  intro k hk
  have:=List.all_eq_true.1 hz k (DataW.weights_mem_each (j:=0) rfl rfl k hk)
  simpa using this
 obtain⟨x0,hx0,b0⟩:=opens_poly enc W 0 (fun _=>true) true n0 _ _ hn0 hw0
 obtain⟨ra0,rl0,rc0,rfl⟩:=okWide_slice (show Tryz.prog.underlying 25=some (.slice 36) by kernel_rfl) (okArg hval 0 (t:=25) (v:=v0) (by simp) (by simp))
 have hrd0:Rd (Old W) W (polyPV x0) (.slice ra0 rl0 rc0):=(hx0.2 0 _ _ rfl rfl).2
 obtain⟨n1,hn1⟩:=h1
 have hw1:∀k∈d1.weights prg 25,k≤reachBytes:=by
  intro k hk
  have:=List.all_eq_true.1 hz k (DataW.weights_mem_each (j:=1) rfl rfl k hk)
  simpa using this
 obtain⟨x1,hx1,b1⟩:=opens_poly enc W 0 (fun _=>true) true n1 _ _ hn1 hw1
 obtain⟨ra1,rl1,rc1,rfl⟩:=okWide_slice (show Tryz.prog.underlying 25=some (.slice 36) by kernel_rfl) (okArg hval 1 (t:=25) (v:=v1) (by simp) (by simp))
 have hrd1:Rd (Old W) W (polyPV x1) (.slice ra1 rl1 rc1):=(hx1.2 0 _ _ rfl rfl).2
 have hc:=C05.PolyDivides x0 x1 b0 b1
 refine(hc.2 (Old W) W (fun _=>none) #[.slice ra0 rl0 rc0,.slice ra1 rl1 rc1] (fun b hb=>hb) ⟨(fun r sc h=>by cases h),(fun r r' b h=>by obtain⟨_,h⟩:=h)⟩ rfl ?_).mono ?_
 ·intro j e v he hv
  cases j with
  |zero=>simp at he hv;subst he hv;exact hrd0
  |succ j =>
   cases j with
   |zero=>simp at he hv;subst he hv;exact hrd1
   |succ j=>simp at he
 ·intro e W' ⟨v,β',he,_,hk,_,hv,_⟩
  subst he
  have hv:Rd _ W' (vB true) v:=hv
  cases hv
  have hk':Keeps (fun _=>False) W W':=⟨hk.os,hk.tape,hk.output,hk.size,fun k h1 _=>hk.block k h1 (fun ⟨y,hy,_⟩=>by obtain⟨_,hy⟩:=hy),hk.shape⟩
  refine⟨_,rfl,post_true (tb:=4) hW' hk' rfl (by kernel_rfl) (by kernel_rfl) rfl rfl rfl laid ?_⟩
  rw[hp]
  intro t ht
  have:t=25∨t=25:=by simpa using ht
  rcases this with rfl|rfl
  all_goals exact⟨by kernel_rfl,of_decide_eq_true (by kernel_rfl)⟩
def tabCells:DataW Unit→Array Value
 |.agg l=>(l.map fun d=>match d with
  |.lit (.int k n)=>Value.int k n
  |_=>Value.nilIface).toArray
 |_ => #[]
def setTab(b:Nat)(d:DataW Unit)(h:Array Obj):Array Obj:=h.modify b fun
 |.cells _ t fr => .cells (tabCells d) t fr
 |o=>o
noncomputable def laidWorld(os:Os):World :=
 { World.holding Tryz.prog os ⟨#[],#[],[]⟩ with heap:=setTab 0 Rows.laid_internal_strconv_uint64pow10 (setTab 2 Rows.laid_math_bits_deBruijn32tab (setTab 3 Rows.laid_math_bits_deBruijn64tab (World.holding Tryz.prog os ⟨#[],#[],[]⟩).heap)) }
theorem laid_met(os:Os):laidMet Tryz.prog Rows.polyDividesRow.laid ((laidWorld os).forCall (fun _ _=>0) ⟨#[],#[.slice none 0 0,.slice none 0 0],[]⟩).memory :=
 laidMet_of_run' 8 (by kernel_rfl) (by kernel_rfl)
theorem reads(os:Os){H:Type}(enc:TypeId×Value→H):(DataW.whole enc Tryz.prog ((laidWorld os).forCall (fun _ _=>0) ⟨#[],#[.slice none 0 0,.slice none 0 0],[]⟩).memory Tryz.f5.params.toList Rows.polyDividesSpec.vars false (#[.slice none 0 0,.slice none 0 0]:Array Value).toList 8).isSome=true:=by kernel_rfl
set_option maxRecDepth 100000 in
theorem lifted(os:Os)(started:os.Started)(H:Type)(enc:TypeId×Value→H)(F:Stop.Interp) :
  ReturnsInHanded {} Tryz.checked os 5 .any ((OpenSpec.ofChange Rows.polyDividesSpec).preRow enc Tryz.prog Tryz.f5 Rows.polyDividesRow.domain false Rows.polyDividesRow.laid) (((OpenSpec.ofChange Rows.polyDividesSpec).at F).post enc Tryz.prog Tryz.f5 false true false false):=by
 obtain⟨x,hx⟩:=Option.isSome_iff_exists.1 (reads os enc)
 refine returnsInHanded_of_row (C:=Tryz.checked) (s:=OpenSpec.ofChange Rows.polyDividesSpec) own started (by kernel_rfl) Tryz.func5
  (witness_row_at (enc:=enc) (C:=Tryz.checked) false (laidWorld os) #[.slice none 0 0,.slice none 0 0] rfl (by kernel_rfl) (by kernel_rfl) (by kernel_rfl)
   (OpenSpec.preRow_of_cond 8 hx (by kernel_rfl) (fun k hk=>by cases hk) (by kernel_rfl) (laid_met os))) ?_
 intro W base args ds gs before hval hW _ _ hz hL _ _
 exact contract H enc W base args ds gs before hval hW hz
theorem j1:(Rows.polyDividesRow.inPlace==Tryz.prog.inPlace 5)=true:=by kernel_rfl
theorem j2:(Rows.polyDividesRow.unfollowed==Tryz.prog.unfollowed 5)=true:=by kernel_rfl
theorem j3:(Rows.polyDividesRow.recurses==Tryz.prog.recurses 5)=true:=by kernel_rfl
theorem j4:(Rows.polyDividesRow.named==Tryz.prog.varsNamed 5)=true:=by kernel_rfl
theorem closed:joinedFacts Tryz.prog 5 Tryz.f5 Rows.polyDividesSpec Rows.polyDividesRow=true:=by
 unfold joinedFacts
 rw[j1,j2,j3,j4]
 kernel_rfl
set_option maxRecDepth 100000 in
theorem said:Rows.PolyDividesSaid :=
 OpenClaim.holds_of_cond 5 Tryz.f5 rfl rfl rfl rfl rfl rfl rfl ⟨rfl,rfl,rfl,rfl,rfl⟩ rfl rfl rfl rfl rfl (by kernel_rfl) Tryz.func5 closed
  (of_decide_eq_true (by kernel_rfl)) (by unfold Func.isWrapper;first|(rw [if_pos (by decide +kernel)];kernel_rfl)|(rw [if_neg (by decide +kernel)];exact⟨rfl,rfl⟩))
  (fun os started H enc _ F=>by rw[OpenClaim.pre_eq_preRow];exact lifted os started H enc F)
theorem plainL(f:FuncId)(fn:Func)(hf:Tryz.pinned.checked.prog.funcNamed Rows.polyDividesRow.func=some f)(hfn:Tryz.pinned.checked.prog.funcs[f]? = some fn) :
  true=Tryz.pinned.checked.prog.looks []∧∀(j:Nat) t,fn.params[j]? = some t→Tryz.pinned.checked.prog.wantsStandIn t=false:=by
 obtain rfl:f=5:=Option.some.inj ((show Tryz.prog.funcNamed Rows.polyDividesRow.func=some 5 by kernel_rfl).symm.trans hf) |>.symm
 obtain rfl:fn=Tryz.f5:=(Option.some.inj (Tryz.func5.symm.trans hfn)).symm
 refine⟨by kernel_rfl,fun j t ht => ?_⟩
 have hp:Tryz.f5.params = #[25,25]:=by kernel_rfl
 rw[hp] at ht
 have:t=25∨t=25:=by simpa using Array.mem_of_getElem? ht
 rcases this with rfl|rfl
 all_goals exact(show Tryz.prog.wantsStandIn _=false by kernel_rfl)
theorem proved:Rows.PolyDividesCardSaid :=
 Claim7.holds_tied_plain_at .later [] _ _ _ _ said (fun _ h=>by cases h) (by kernel_rfl) (fun _ h=>by cases h) polyDivides_row_tie rfl ⟨rfl,rfl⟩ (by kernel_rfl) rfl plainL (by kernel_rfl)
end RowPolyDivides
end Go.Proofs.YtiahgkpihbchbaaGreatDoor.Sym
