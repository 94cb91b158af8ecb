/- Lemmas for the statements of this seat. -/
import Derived.Test.YtcpnocgollpbhaaGreatDoorW25
import Derived.Deep.Slices
import Derived.WideKeyArgs
import Derived.RowKit3
import Derived.WalkKit
import Derived.ProofKit
import Derived.OpenShut
import Derived.SizedLaws
import Derived.Test.YtcpnocgollpbhaaGreatDoorT0
import Derived.Test.YtcpnocgollpbhaaGreatDoorP0
namespace Go.Proofs.YtcpnocgollpbhaaGreatDoor.Sym
open Go Go.RowKit Go.ChangeShapes Go.WideShapes
set_option linter.unusedVariables false
abbrev Old(w:World)(b:Nat):Prop:=b<w.heap.size
def uL(P:Program)(t:TypeId){α:Type}(f:α→List PV)(Q:α→Prop):Prop :=
 ∀{H:Type} (enc:TypeId×Value→H) (w:World) (base:Nat) (spare:Nat→Bool) (held:Bool) (fuel:Nat) (cs:List Value) (x:DataW H×List MemPlace),
  DataW.trod enc P w base spare held fuel t cs=some x→(∀n∈x.1.weights P t,n≤reachBytes)→∃a,bM (Old w) w (f a) cs∧Q a
theorem uM{I:Nat→Prop}{w:World}{a b:List PV}{us vs:List Value}(h:bM I w a us)(k:bM I w b vs):bM I w (a++b) (us++vs):=by
 refine⟨by rw[afW,afW,h.1,k.1],fun j c u hc hu => ?_⟩;by_cases hj:j<a.length
 ·rw[ah0 hj] at hc;rw[ah0 (by rw[←h.1];exact hj)] at hu;exact h.2 j c u hc hu
 ·rw[agD (by omega)] at hc;rw[agD (by rw[←h.1];omega)] at hu;rw[h.1] at hc;exact k.2 _ c u hc hu
theorem om{I:Nat→Prop}{w:World}{p:PV}{v:Value}(h1:p.one=true)(h:Rd I w p v):bM I w [p] [v]:=by
 refine⟨rfl,fun j c u hc hu => ?_⟩;cases j with
 |zero=>simp at hc hu;subst hc hu;exact⟨h1,h⟩
 |succ j=>simp at hc
theorem NC{P:Program}{t:TypeId}{k:IntKind}(ht:P.underlying t=some (.int k)):uL P t (fun n:Int=>[.int k n]) (fun n=>(Lit.int k n).wf=true):=by intro H enc w base spare held fuel cs x h _;obtain⟨n,rfl,_,hw⟩:=DataW.trod_int ht h;exact⟨n,om rfl (.int _ _),hw⟩
theorem KO{P:Program}{t:TypeId}(ht:P.underlying t=some .bool):uL P t (fun b:Bool=>[.bool b]) (fun _=>True):=by intro H enc w base spare held fuel cs x h _;obtain⟨b,rfl,_⟩:=DataW.trod_bool ht h;exact⟨b,om rfl (.bool _),trivial⟩
theorem PG{w:World}{a:Addr}{v:Value}(h:w.cell? a=some v):a.spot=none∧a.block<w.heap.size:=by
 unfold World.cell? at h;split at h
 ·rename_i c q r hc;refine⟨?_,(agC.1 hc).1⟩;cases hs:a.spot with
  |none=>rfl
  |some _=>rw[hs] at h;simp at h
 ·cases h
theorem IP(a:Addr):a.add 0=a:=rfl
theorem Fu(b o i:Nat):(⟨b,o,none⟩:Addr).add i=⟨b,o+i,none⟩:=by
 unfold Addr.add;split
 ·rename_i h;subst h;rfl
 ·rfl
theorem Ba{H:Type}{P:Program}{e:TypeId} : ∀{l:List (DataW H)} {d:DataW H} {n:Nat},d∈l→n∈d.weights P e→n∈DataW.weightsAll P e l
 |a::r,d,n,hd,hn=>by
  simp only[DataW.weightsAll,List.mem_append];rcases afY.1 hd with h|h
  ·subst h;exact Or.inl hn
  ·exact Or.inr (Ba h hn)
theorem uN{P:Program}{t e:TypeId}{α:Type}{f:α→List PV}{Q:α→Prop}{s sb:Nat}(ht:P.underlying t=some (.slice e))(hs:P.cellsOf e=s)(Oc:0<s)(hb8:P.bytesOf e=sb)(hf:∀a,(f a).length=s)(ho:uL P e f Q) :
  uL P t (fun l:List α=>[.list (l.map f)]) (fun l=>l.length*sb≤reachBytes∧∀a∈l,Q a):=by
 intro H enc w base spare held fuel cs x h HO;rcases Deep.open_slice ht h with ⟨rfl,_⟩|⟨a,len,cap,m,n,D,Pl,rfl,hb,hl,hm,hmm,Tr,hx⟩
 ·exact⟨[],om rfl (.nil _ _),by simp,by simp⟩
 rw[hs] at hx;have hlm:len≤m:=by rw[hmm];split<;>omega
 have zt:∀i,i<len→∃(y:α×List Value),w.cells? base (a.add (i*s)) s=some y.2∧bM (Old w) w (f y.1) y.2∧Q y.1:=by
  intro i hi;obtain⟨YD,h1,h2⟩:=hx i (by omega);obtain⟨y,h3,h4⟩:=ho enc w base spare held n YD _ h2 (fun q hq=>HO q (by rw[Tr];simp only[DataW.weights,ht,List.mem_cons,List.mem_append];exact Or.inr (Or.inl (Ba (agj.2 ⟨i,ahV.2 hi,rfl⟩) hq))))
  exact⟨(y,YD),h1,h3,h4⟩
 by_cases h0:len=0
 ·subst h0;exact⟨[],om rfl (.nil _ _),by simp,by simp⟩
 have fT:Nonempty (α×List Value):=⟨(zt 0 (by omega)).choose⟩;have:Inhabited (α×List Value):=Classical.inhabited_of_nonempty fT;obtain⟨Y,hY⟩:=Deep.choose_lt zt;obtain⟨c0,_⟩:=hY 0 (by omega);obtain⟨_,cl0,cg0⟩:=World.cells?_some c0;have cg:=cg0 0 Oc;obtain⟨v0,Se⟩:∃v,(Y 0).2[0]? = some v:=⟨_,afp (by omega)⟩;rw[Se] at cg;rw[ait,IP,IP] at cg;obtain⟨M5,Fv⟩:=PG cg;obtain⟨b,o,sp⟩:=a;simp only at M5 Fv;subst M5;have PH:∀i j:Nat,i<len→j<s→w.cell? ⟨b,o+(i*s+j),none⟩=(Y i).2[j]? := by intro i j hi hj;obtain⟨c1,_⟩:=hY i hi;obtain⟨_,_,g⟩:=World.cells?_some c1;have:=g j hj;rw[Fu,Fu,aiQ] at this;exact this
 refine⟨(List.range len).map (fun i=>(Y i).1),om rfl ?_,?_,?_⟩
 ·have e:len=(((List.range len).map (fun i=>(Y i).1)).map f).length:=by simp
  have zL:∀(i:Nat) row,(((List.range len).map (fun i=>(Y i).1)).map f)[i]? = some row→i<len∧row=f (Y i).1:=by
   intro i row hr;have hi:i<len:=by have:=(afs.1 hr).1;rw[←e] at this;exact this
   refine⟨hi,?_⟩;simp[List.getElem?_map,List.getElem?_range hi] at hr;exact hr.symm
  have key:Rd (Old w) w (.list (((List.range len).map (fun i=>(Y i).1)).map f)) (.slice (some ⟨b,o,none⟩) (((List.range len).map (fun i=>(Y i).1)).map f).length cap):=by
   refine Rd.list _ b o cap s (fun i j=>((Y i).2[j]?).getD .nilIface) (by rw[←e];exact hl) Fv ?_ ?_ ?_
   ·intro i row hr;obtain⟨_,rfl⟩:=zL i row hr;exact hf _
   ·intro i j row x hr RW;obtain⟨hi,rfl⟩:=zL i row hr;obtain⟨c1,r1,_⟩:=hY i hi;have hj:j<s:=by rw[←hf (Y i).1];exact(afs.1 RW).1
    have hlen:=r1.1;obtain⟨u,hu⟩:∃u,(Y i).2[j]? = some u:=⟨_,afp (by rw[←hlen,hf];exact hj)⟩;refine⟨(r1.2 j x u RW hu).1,?_⟩;rw[PH i j hi hj,hu];rfl
   ·intro i j row x hr RW;obtain⟨hi,rfl⟩:=zL i row hr;obtain⟨c1,r1,_⟩:=hY i hi;have hj:j<s:=by rw[←hf (Y i).1];exact(afs.1 RW).1
    have hlen:=r1.1;obtain⟨u,hu⟩:∃u,(Y i).2[j]? = some u:=⟨_,afp (by rw[←hlen,hf];exact hj)⟩;rw[hu];exact(r1.2 j x u RW hu).2
  rw[←e] at key;exact key
 ·have:=HO ((len+(m-len))*sb) (by
   rw[Tr];simp only[DataW.weights,ht,hb8,List.length_map,List.length_range,List.mem_cons,true_or])
  rw[afq,agZ];exact afJ (afw _ (by omega)) this
 ·intro y hy;obtain⟨i,hi,rfl⟩:=agj.1 hy;exact(hY i (ahV.1 hi)).2.2
theorem yz{P:Program}{t:TypeId}{fs:Array Field}(ht:P.underlying t=some (.struct fs)){H:Type}{enc:TypeId×Value→H}{w:World}{base:Nat}{spare:Nat→Bool}{held:Bool}{fuel:Nat}{cs:List Value}{x:DataW H×List MemPlace}
  (h:DataW.trod enc P w base spare held fuel t cs=some x):cs.length=P.cellsOf t:=(DataW.trod_struct ht h).choose_spec.choose_spec.2.2.1
theorem ru{P:Program}{t u:TypeId}{fs:Array Field}{α:Type}{f:α→List PV}{Q:α→Prop}(ht:P.underlying t=some (.struct fs)){H:Type}{enc:TypeId×Value→H}{w:World}{base:Nat}{spare:Nat→Bool}{held:Bool}{fuel:Nat}{cs:List Value}{x:DataW H×List MemPlace}
  (h:DataW.trod enc P w base spare held fuel t cs=some x) (HO:∀n∈x.1.weights P t,n≤reachBytes) (i off s:Nat) (hi:(fs[i]?).map (fun f=>(f.type,f.offset))=some (u,off)) (hs:P.cellsOf u=s) (ho:uL P u f Q):∃a,bM (Old w) w (f a) ((cs.drop off).take s)∧Q a:=by
 obtain⟨xs,n,_,hx,hl,hlen,hf⟩:=DataW.trod_struct ht h;cases hfi:fs[i]? with
 |none=>rw[hfi] at hi;cases hi
 |some fd =>
  rw[hfi] at hi;injection hi with hi
  injection hi with e1 e2
  have h1:=hf i fd hfi;have h2:i<xs.length:=by rw[hlen];exact(agC.1 hfi).1
  rw[afp h2,e1,e2,hs] at h1;refine ho enc w base spare held n _ _ h1 (fun q hq=>HO q ?_);rw[hx];simp only[DataW.weights,ht];refine DataW.weights_mem_each (j:=i) (t:=u) (d:=xs[i].1) ?_ ?_ q hq
  ·rw[afu,agQ,hfi];exact agK some e1
  ·rw[afu,afp h2];rfl
def DD:Option TypeDesc→Option (List (TypeId×Nat))
 |some (.struct fs)=>some (fs.toList.map fun f=>(f.type,f.offset))
 |_=>none
theorem Ab{u:Option TypeDesc}{l:List (TypeId×Nat)}(h:DD u=some l):∃fs,u=some (.struct fs)∧∀i:Nat,(fs[i]?).map (fun f=>(f.type,f.offset))=l[i]? := by
 unfold DD at h;split at h
 ·rename_i fs;injection h with h
  refine⟨fs,rfl,fun i => ?_⟩;rw[←h,afu,agQ]
 ·cases h
theorem ND{P:Program}{t:TypeId}{fs:Array Field}{w:World}{r:Reach}{b0:Nat}{v:Value}{cs:List PV}(ht:P.underlying t=some (.struct fs))(hv:Value.okWide P w r b0 t v)(h:bM (Old w) w cs v.cells.toList):Rd (Old w) w (.agg cs) v:=by obtain⟨us,rfl,_⟩:=okWide_struct ht hv;have h:bM (Old w) w cs us.toList:=h;refine .agg cs us (by rw[h.1];simp) (fun j c hc => ?_) (fun j c u hc hu=>(h.2 j c u hc (by simpa using hu)).2);obtain⟨u,hu⟩:∃u,us.toList[j]? = some u:=⟨_,afp (by rw[←h.1];exact(afs.1 hc).1)⟩;exact(h.2 j c u hc hu).1
theorem KP{w w':World}{may:MemPlace→Prop}(h:l6 (fun _=>False) w w'):w.keptBut w' may:=by
 refine⟨h.os,h.output,fun i hi => ?_⟩;have e:=h.block i hi (fun h=>h);rw[e];cases w.heap[i]? with
 |none=>rfl
 |some o=>cases o<;>simp
theorem GP{w w':World}(h:l6 (fun _=>False) w w'){a:Addr}(ha:a.block<w.heap.size):w'.frozen? a=w.frozen? a:=by have e:=h.block _ ha (fun h=>h);unfold World.frozen?;rw[e]
theorem KQ{w w':World}(h:l6 (fun _=>False) w w'){p:MemPlace}(hp:p.block<w.heap.size):w.sameAt w' p:=by
 cases p with
 |cell b off =>have e:=h.block b hp (fun h=>h);show w'.cell? _=w.cell? _;simp[World.cell?,e]
 |map b=>exact h.block b hp (fun h=>h)
section
variable {H:Type} {enc:TypeId×Value→H} {P:Program}
theorem NG{f:Func}{s:ChangeSpec}{apart fresh handsOn again:Bool}{W W':World}{args:Array Value}{ds gs:List (DataW H)}{before:List MemPlace}{tb:TypeId}
  (hW:DataW.Whole enc P f.params.toList s.vars apart W args.toList ds gs before) (hk:l6 (fun _=>False) W W')
  (TA:s.vars=[]) (YV:f.resultTypes = #[tb]) (htb:P.underlying tb=some .bool)
  (pG:(s.fn H (ds++gs)).results=[.lit (.bool true)]) (kO:(s.fn H (ds++gs)).args=ds) (hgs:(s.fn H (ds++gs)).vars=[])
  (hl:laidOutB P=true) (hr:∀t∈f.params.toList,P.readableRec t=true∧t<P.types.size):s.post enc P f apart fresh handsOn again W args (.bool true) W':=by
 have dI:=hW.lt;obtain⟨p,q,hA,hV,RZ,hz,hn⟩:=hW;have hW:DataW.Whole enc P f.params.toList s.vars apart W args.toList ds gs before:=⟨p,q,hA,hV,RZ,hz,hn⟩;rw[TA] at hV;obtain⟨GQ,o5⟩:=trodVars_none hV;subst o5;have YW:before=p:=by rw[RZ];simp
 have Vw:∀(sp:Nat→Bool),(∀x∈before,sp x.block=true)→DataW.TrodAll enc P W' 0 sp true f.params.toList args.toList ds p:=by
  intro sp M5;have key:∀{ts:List TypeId} {vs:List Value} {es:List (DataW H)} {ps:List MemPlace},(∀t∈ts,P.readableRec t=true∧t<P.types.size)→(∀x∈ps,x∈before)→DataW.TrodAll enc P W 0 (fun _=>true) true ts vs es ps→DataW.TrodAll enc P W' 0 sp true ts vs es ps:=by
   intro ts
   induction ts with
   |nil =>intro vs es ps _ _ h;obtain⟨rfl,rfl,rfl⟩:=trodAll_nil h;exact trodAll_mk0
   |cons t ts ih =>intro vs es ps TB o0 h;obtain⟨v,vs',d,ds',a,b,rfl,rfl,rfl,h1,h2⟩:=trodAll_cons h;refine⟨a,b,WideElems.Trod_stays hl (TB t (agA ..)).1 (TB t (agA ..)).2 h1 (fun x hx=>KQ hk (dI x (o0 x (aio _ hx)))) (fun x hx=>M5 x (o0 x (aio _ hx))),ih (fun u hu=>TB u (ag9 _ hu)) (fun x hx=>o0 x (List.mem_append_right _ hx)) h2,rfl⟩
  exact key hr (fun x hx=>by rw[YW];exact hx) hA
 have hold:∀x∈before,(fun b=>decide (b<W.heap.size)) x.block=true:=fun x hx=>by simpa using dI x hx
 have LL:∀(b:Nat) (sp:Nat→Bool) (hd:Bool),DataW.TrodAll enc P W' b sp hd f.resultTypes.toList ((Value.bool true).resultList f.resultTypes.size) (s.fn H (ds++gs)).results []:=by intro b sp hd;rw[YV,pG];exact trodAll_mk1 (shut_bool htb true)
 have HJ:∀sp:Nat→Bool,DataW.TrodVars enc P W' sp s.vars (s.fn H (ds++gs)).vars []:=by intro sp;rw[TA,hgs];rfl
 have PI:∀(sp:Nat→Bool),(∀x∈before,sp x.block=true)→DataW.TrodAll enc P W' 0 sp true f.params.toList args.toList (s.fn H (ds++gs)).args p:=by intro sp M5;rw[kO];exact Vw sp M5
 refine⟨ds,gs,before,[],p,[],hW,LL _ _ _,PI _ hold,HJ _,KP hk,fun _ => ?_⟩;refine⟨ok_one YV rfl (okWide_bool_mk htb true),_,_,([]++p)++[],⟨[]++p,[],trodAll_append (PI _ (fun _ _=>rfl)) (LL _ _ _),HJ _,rfl,?_,?_⟩,?_⟩
 ·intro b off hp;have hp':MemPlace.cell b off∈before:=by rw[YW];simpa using hp
  rw[GP hk (dI _ hp')];exact hz b off hp'
 ·intro ha;have:=hn ha;rw[YW] at this;simpa using this
 ·intro x hx _;rw[YW];simpa using hx
end
end Go.Proofs.YtcpnocgollpbhaaGreatDoor.Sym
namespace Go.Proofs.YtcpnocgollpbhaaGreatDoor.Sym
open Go Go.RowKit Go.ChangeShapes Go.WideShapes
set_option linter.unusedVariables false
theorem Sf{n:Int}(h:(Lit.int .u32 n).wf=true):∃v:UInt32,(v.toNat:Int)=n:=by
 have h:(0≤n∧n≤4294967295):=by simpa[Lit.wf,IntKind.min,IntKind.max,IntKind.signed,IntKind.bits] using h
 refine⟨UInt32.ofNat n.toNat,?_⟩;rw[show (UInt32.ofNat n.toNat).toNat=n.toNat from by simp;omega];omega
theorem KR:uL bu 112 aj (fun _=>True):=by intro H enc w base spare held fuel cs x h HO;obtain⟨n,h1,h2⟩:=NC (k := .u32) (show bu.underlying 112=some (.int .u32) by kernel_rfl) enc w base spare held fuel cs x h HO;obtain⟨v,rfl⟩:=Sf h2;exact⟨v,h1,trivial⟩
theorem Bb:uL bu 34 (fun l:Words=>[af l]) (fun l=>l.length*4≤reachBytes):=by intro H enc w base spare held fuel cs x h HO;obtain⟨l,h1,h2,_⟩:=uN (s:=1) (show bu.underlying 34=some (.slice 112) by kernel_rfl) (by kernel_rfl) (by omega) (sb:=4) (by kernel_rfl) (fun _=>rfl) KR enc w base spare held fuel cs x h HO;exact⟨l,h1,h2⟩
theorem Vx{α:Type}(cs:List α)(a b c:Nat)(h:cs.length=a+b+c):cs=(cs.drop 0).take a++((cs.drop a).take b++(cs.drop (a+b)).take c):=by
 have e:(cs.drop (a+b)).take c=cs.drop (a+b):=afD (by rw[ahg];omega);have h1:(cs.drop a).take b++cs.drop (a+b)=cs.drop a:=by have:=ahB b (cs.drop a);rwa[aj6] at this
 rw[e,h1,agB,ahB]
def Sg(a:ag):Prop:=a.num.length*4≤reachBytes∧a.den.length*4≤reachBytes
theorem KS:uL bu 36 ag.cells Sg:=by intro H enc w base spare held fuel cs x h HO;obtain⟨fs,hu,e⟩:=Ab (show DD (bu.underlying 36)=some [(4,0),(34,1),(34,2)] by kernel_rfl);have hl:=yz hu h;have hl:cs.length=1+1+1:=hl.trans (by kernel_rfl);obtain⟨b,r0,_⟩:=ru hu h HO 0 0 1 (e 0) (by kernel_rfl) (KO (show bu.underlying 4=some .bool by kernel_rfl));obtain⟨n,r1,q1⟩:=ru hu h HO 1 1 1 (e 1) (by kernel_rfl) Bb;obtain⟨d,r2,q2⟩:=ru hu h HO 2 2 1 (e 2) (by kernel_rfl) Bb;refine⟨⟨b,n,d⟩,?_,q1,q2⟩;rw[Vx cs 1 1 1 hl];exact uM r0 (uM r1 r2)
theorem Fw:uL bu 26 (bp ag.cells) (fun l=>∀a∈l,Sg a):=by intro H enc w base spare held fuel cs x h HO;obtain⟨l,h1,_,h2⟩:=uN (s:=3) (show bu.underlying 26=some (.slice 36) by kernel_rfl) (by kernel_rfl) (by omega) (sb:=56) (by kernel_rfl) (fun _=>rfl) KS enc w base spare held fuel cs x h HO;exact⟨l,h1,h2⟩
theorem KT:uL bu 22 (fun l:List (List ag)=>[bB (bp ag.cells) l]) (fun l=>∀p∈l,∀a∈p,Sg a):=by intro H enc w base spare held fuel cs x h HO;obtain⟨l,h1,_,h2⟩:=uN (s:=1) (show bu.underlying 22=some (.slice 26) by kernel_rfl) (by kernel_rfl) (by omega) (sb:=24) (by kernel_rfl) (fun _=>rfl) Fw enc w base spare held fuel cs x h HO;exact⟨l,h1,h2⟩
theorem GR:uL bu 24 aA.cells (fun x=>∀p∈x.roots,∀a∈p,Sg a):=by intro H enc w base spare held fuel cs x h HO;obtain⟨fs,hu,e⟩:=Ab (show DD (bu.underlying 24)=some [(22,0)] by kernel_rfl);have hl:=yz hu h;have hl:cs.length=1:=hl.trans (by kernel_rfl);obtain⟨a,r0,q0⟩:=ru hu h HO 0 0 1 (e 0) (by kernel_rfl) KT;refine⟨⟨a⟩,?_,q0⟩;rw[agB,afD (by omega)] at r0;exact r0
end Go.Proofs.YtcpnocgollpbhaaGreatDoor.Sym
namespace Go.Proofs.YtcpnocgollpbhaaGreatDoor.Sym
def nat:Words→Nat
 |[]=>0
 |w::r=>w.toNat+4294967296*nat r
def tp:Nat→Nat→Words
 |0,_=>[]
 |f+1,n=>bif Nat.beq n 0 then [] else UInt32.ofNat n::tp f (n/4294967296)
def words(n:Nat):Words:=tp n n
theorem jK(w:UInt32):w.toNat<4294967296:=w.toNat_lt
theorem vv(n:Nat):(UInt32.ofNat n).toNat=n%4294967296:=by simp
theorem Vy{a b:UInt32}(h:a.toNat=b.toNat):a=b:=UInt32.toNat_inj.1 h
theorem aas{n:Nat}(h:n<4294967296):(UInt32.ofNat n).toNat=n:=by rw[vv];exact ag1 h
theorem iR(n:Nat)(h:n<4294967296):∃w:UInt32,w.toNat=n:=⟨UInt32.ofNat n,aas h⟩
theorem xn : ∀ (f n : Nat), n ≤ f → nat (tp f n) = n
  | 0, n, h => by have : n = 0 := by omega
                  subst this; rfl
  | f + 1, n, h => by
    unfold tp;by_cases h0 : n = 0
    · subst h0; rfl
    · have : Nat.beq n 0 = false := by
        cases hb : Nat.beq n 0 with
        | true => exact absurd (afB hb) h0
        | false => rfl
      rw [this];show (UInt32.ofNat n).toNat + 4294967296 * nat (tp f (n / 4294967296)) = n;rw [xn f (n / 4294967296) (by omega), vv];omega
theorem aH(n:Nat):nat (words n)=n:=xn n n (afy n)
def cn:Words→Bool
 |[]=>true
 |[w]=>w.toNat != 0
 |_::w::r=>cn (w::r)
theorem GS{w:UInt32}{r:Words}(h:cn (w::r)=true):cn r=true:=by
 cases r with
 |nil=>rfl
 |cons v r=>exact h
theorem rW:∀{l:Words},cn l=true→l≠[]→0<nat l
 |[],_,h=>absurd rfl h
 |[w],h,_=>by simp[cn] at h;show 0<w.toNat+4294967296*0;omega
 |w::v::r,h,_=>by have:=rW (l:=v::r) h (by simp);show 0<w.toNat+4294967296*nat (v::r);omega
theorem PJ:∀{a b:Words},cn a=true→cn b=true→nat a=nat b→a=b
 |[],[],_,_,_=>rfl
 |[],w::r,_,hb,h=>by have:=rW hb (by simp);have h0:nat []=0:=rfl;omega
 |w::r,[],ha,_,h=>by have:=rW ha (by simp);have h0:nat []=0:=rfl;omega
 |w::r,v::s,ha,hb,h=>by
  have h:w.toNat+4294967296*nat r=v.toNat+4294967296*nat s:=h;have h1:=jK w;have h2:=jK v;have h3:w.toNat=v.toNat:=by omega
  have h4:nat r=nat s:=by omega
  rw[Vy h3,PJ (GS ha) (GS hb) h4]
theorem Fx:∀(f n:Nat),n≤f→cn (tp f n)=true
 |0,n,_=>rfl
 |f+1,n,h=>by
  unfold tp;by_cases h0:n=0
  ·subst h0;rfl
  ·have:Nat.beq n 0=false:=by
    cases hb:Nat.beq n 0 with
    |true=>exact absurd (afB hb) h0
    |false=>rfl
   rw[this];show cn (UInt32.ofNat n::tp f (n/4294967296))=true;have ih:=Fx f (n/4294967296) (by omega);have hn:=xn f (n/4294967296) (by omega);cases hr:tp f (n/4294967296) with
   |nil =>
    rw[hr] at hn;have hn:0=n/4294967296:=hn;show((UInt32.ofNat n).toNat != 0)=true;rw[vv];have:n%4294967296≠0:=by omega
    simpa using this
   |cons v r=>rw[hr] at ih;exact ih
theorem iS(n:Nat):cn (words n)=true:=Fx n n (afy n)
theorem uO{l:Words}{n:Nat}(hc:cn l=true)(h:nat l=n):words n=l:=PJ (iS n) hc (by rw[aH,h])
theorem fy{l:Words}(hc:cn l=true):words (nat l)=l:=uO hc rfl
theorem fW:words 0=[]:=rfl
theorem vw{n:Nat} : words n=[]↔n=0:=by
 constructor
 ·intro h;rw[←aH n,h];rfl
 ·intro h;subst h;rfl
theorem dO{n:Nat} : (words n).length=0↔n=0:=by rw[List.length_eq_zero_iff,vw]
theorem eQ:∀l:Words,nat l<4294967296^l.length
 |[]=>by simp[nat]
 |w::r=>by have h1:=eQ r;have h2:=jK w;show w.toNat+4294967296*nat r<4294967296^(r.length+1);rw[afM];omega
theorem nP:∀a b:Words,nat (a++b)=nat a+4294967296^a.length*nat b
 |[],b=>by simp[nat]
 |w::r,b=>by show w.toNat+4294967296*nat (r++b)=w.toNat+4294967296*nat r+4294967296^(r.length+1)*nat b;rw[nP r b,afM,afU,←afZ,agr 4294967296 (4294967296^r.length)];omega
theorem kJ(l:Words)(k:Nat)(h:k≤l.length):nat l=nat (l.take k)+4294967296^k*nat (l.drop k):=by
 conv=>lhs;rw[←ahB k l]
 rw[nP,afK,agx h]
theorem bR{l:Words}{k:Nat}{v:UInt32}(h:l[k]? = some v):nat (l.take (k+1))=nat (l.take k)+4294967296^k*v.toNat:=by have hk:k<l.length:=(afs.1 h).1;rw[ag4,h];show nat (l.take k++[v])=_;rw[nP,afK,agx (aiK hk)];simp[nat]
theorem ss{l:Words}{k:Nat}{v:UInt32}(h:l[k]? = some v):nat (l.drop k)=v.toNat+4294967296*nat (l.drop (k+1)):=by
 have hk:k<l.length:=(afs.1 h).1;have hv:l[k]=v:=by have:=afp hk;rw[h] at this;injection this with this;exact this.symm
 rw[ah3 hk,hv];rfl
theorem nQ:∀n:Nat,nat (List.replicate n 0)=0
 |0=>rfl
 |n+1=>by show(0:UInt32).toNat+4294967296*nat (List.replicate n 0)=0;rw[nQ n];rfl
theorem rz:∀(l:Words) (k:Nat) (v u:UInt32),l[k]? = some u→nat (l.set k v)+4294967296^k*u.toNat=nat l+4294967296^k*v.toNat
 |[],k,v,u,h=>by simp at h
 |w::r,0,v,u,h=>by simp at h;subst h;show v.toNat+4294967296*nat r+4294967296^0*w.toNat=w.toNat+4294967296*nat r+4294967296^0*v.toNat;omega
 |w::r,k+1,v,u,h=>by have ih:=rz r k v u (by simpa using h);show w.toNat+4294967296*nat (r.set k v)+4294967296^(k+1)*u.toNat=w.toNat+4294967296*nat r+4294967296^(k+1)*v.toNat;rw[afM,agr (4294967296^k) 4294967296,afZ,afZ];omega
theorem hZ{l:Words}{k:Nat}{v:UInt32}(h:k<l.length):nat ((l.set k v).take (k+1))=nat (l.take k)+4294967296^k*v.toNat:=by rw[bR (v:=v) (by simp[h]),List.take_set_of_le (afy k)]
theorem aV{l:Words}{k:Nat}(h:l.length≤k):nat (l.take k)=nat l:=by rw[afD h]
theorem fz{n k:Nat}(h:n<4294967296^k):(words n).length≤k:=by
 have key:∀(l:Words),cn l=true→∀k,nat l<4294967296^k→l.length≤k:=by
  intro l
  induction l with
  |nil=>intro _ k _;simp
  |cons w r ih =>
   intro hc k hk;have hp:=rW hc (by simp);cases k with
   |zero=>simp at hk;omega
   |succ k =>have h1:w.toNat+4294967296*nat r<4294967296^(k+1):=hk;rw[afM] at h1;have:=ih (GS hc) k (by omega);simp;omega
 exact key _ (iS n) k (by rw[aH];exact h)
theorem kK(n:Nat):n<4294967296^(words n).length:=by have:=eQ (words n);rwa[aH] at this
theorem mV{a b:Nat}(h:a≤b):4294967296^a≤4294967296^b:=afH (by omega) h
theorem eu{m n:Nat}(h:m≤n):(words m).length≤(words n).length:=fz (ah5 h (kK n))
theorem DE(l:Words):(words (nat l)).length≤l.length:=fz (eQ l)
theorem IQ{l:Words}(hc:cn l=true)(fT:l≠[]):4294967296^(l.length-1)≤nat l:=by
 refine aiM fun h => ?_
 have h1:=fz h;rw[fy hc] at h1;have:0<l.length:=afC.2 fT;omega
theorem nY:∀{l:Words} {v:UInt32},l[l.length-1]? = some v→(cn l=true↔v.toNat≠0)
 |[],v,h=>by simp at h
 |[w],v,h=>by simp at h;subst h;simp[cn]
 |w::u::r,v,h=>by
  have h':(u::r)[(u::r).length-1]? = some v:=by simp only[List.length_cons,Nat.add_sub_cancel] at h ⊢;rw[show r.length+1=(r.length)+1 from rfl,ah7] at h;exact h
  exact nY (l:=u::r) h'
open Go Path
abbrev Fit(l:Words):Prop:=l.length≤1099511627776
def az.valid(a:az):Bool:=bif a.cJ.isEmpty then !a.neg else cn a.cJ
def az.val(a:az):Int:=bif a.valid then (bif a.neg then -(nat a.cJ:Int) else (nat a.cJ:Int)) else 0
def whole(i:Int):az:=⟨decide (i<0),words i.natAbs⟩
theorem aE(i:Int):(whole i).val=i:=by
 unfold az.val az.valid whole;simp only[aH];by_cases h:i=0
 ·subst h;rfl
 ·have h1:(words i.natAbs).isEmpty=false:=by
   rw[aj7];intro e;rw[vw] at e;omega
  rw[h1];simp only[cond_false,iS,cond_true];by_cases h2:i<0
  ·simp[h2];omega
  ·simp[h2];omega
theorem dC{l:Words} : l.isEmpty=decide (l.length=0):=by cases l<;>simp
namespace cV
theorem Valid(a:az)(h:Fit a.cJ):Cp 171 [a.pv] (vB a.valid):=by
 unfold az.valid;rw[dC];by_cases h0:a.cJ.length=0
 ·simp only[h0,decide_true,cond_true];exact rR.e0 a h0
 ·simp only[h0,decide_false,cond_false];obtain⟨v,hv⟩:∃v,a.cJ[a.cJ.length-1]? = some v:=⟨_,afp (by omega)⟩;have:=rR.e1 a (a.cJ.length-1) v h0 (by unfold ay;omega) (by omega) hv;have e:cn a.cJ=((v.toNat:Int) != 0):=by
   have h1:=nY hv;by_cases h2:v.toNat=0
   ·have h3:((v.toNat:Int) != 0)=false:=by simp[h2]
    rw[h3];cases hc:cn a.cJ with
    |true=>exact absurd h2 (h1.1 hc)
    |false=>rfl
   ·have h3:((v.toNat:Int) != 0)=true:=by simp;omega
    rw[h3];exact h1.2 h2
  rw[e];exact this
theorem BW(a:az):decide (a.val<0)=(a.valid&&a.neg):=by
 unfold az.val;cases hv:a.valid with
 |false=>simp
 |true =>
  cases hn:a.neg with
  |false=>simp
  |true =>
   simp only[cond_true,Bool.and_true];unfold az.valid at hv;have:0<nat a.cJ:=by
    cases he:a.cJ.isEmpty with
    |true=>rw[he,hn] at hv;cases hv
    |false =>rw[he] at hv;exact rW hv (by rw[←aj7];exact he)
   simp;omega
theorem GU(a:az):words a.val.natAbs=bif a.valid then a.cJ else []:=by
 unfold az.val;cases hv:a.valid with
 |false=>rfl
 |true =>
  have hc:cn a.cJ=true:=by
   unfold az.valid at hv;cases he:a.cJ.isEmpty with
   |true=>rw[ajd] at he;rw[he];rfl
   |false=>rw[he] at hv;exact hv
  cases hn:a.neg with
  |false=>simp only[cond_true,cond_false,Int.natAbs_natCast];exact fy hc
  |true=>simp only[cond_true,Int.natAbs_neg,Int.natAbs_natCast];exact fy hc
theorem cJ(a:az)(h:Fit a.cJ):Cp 105 [a.pv] (af (words a.val.natAbs)):=by
 rw[GU];cases hv:a.valid with
 |false=>exact uD.e0 a a.valid (Valid a h) hv
 |true=>exact uD.e1 a a.valid (Valid a h) hv
theorem neg(a:az)(h:Fit a.cJ):Cp 106 [a.pv] (vB (decide (a.val<0))):=by
 rw[BW];cases hv:a.valid with
 |false=>exact uE.e1 a a.valid (Valid a h) hv
 |true=>rw[agU];exact uE.e0 a a.valid (Valid a h) hv
theorem trim(m:Words)(h:m.length≤35184372088832):Cp 172 [af m] (af (words (nat m))):=by
 have loop:∀n:Nat,n≤m.length→nat (m.take n)=nat m→kG.ah m (n:Int) (af (words (nat m))):=by
  intro n
  induction n with
  |zero =>
   intro _ h2;have:nat m=0:=by rw[←h2];rfl
   rw[this,fW];exact kG.tN m _ (by omega) rfl
  |succ n ih =>
   intro h1 h2;obtain⟨v,hv⟩:∃v,m[n]? = some v:=⟨_,afp (by omega)⟩;by_cases h0:v.toNat=0
   ·refine kG.l10 m _ n v (by omega) (by unfold ay;omega) (by omega) hv h0 ?_;rw[show ((n+1:Nat):Int)-1=(n:Int) from by omega];refine ih (by omega) ?_;rw[bR hv,h0] at h2;simpa using h2
   ·have:=kG.jT m ((n+1:Nat):Int) n v (n+1) (by omega) (by unfold ay;omega) (by omega) hv h0 (by omega) rfl h1 (by simp;omega);have e:words (nat m)=m.take (n+1):=by
     refine uO ?_ h2;refine(nY (v:=v) ?_).2 h0;rw[afK,agx h1,ahU,agh,afI (by omega)];exact hv
    rw[e];exact this
 exact kG.e0 m (loop m.length (afy _) (aV (afy _)))
theorem whole(neg:Bool)(m:Words)(h:m.length≤35184372088832):Cp 107 [vB neg,af m] (whole (bif neg then -(nat m:Int) else (nat m:Int))).pv:=by
 cases neg with
 |false =>
  have:=rQ.e1 false m _ (trim m h) rfl;have e:decide ((nat m:Int)<0)=false:=by simp
  simp only[Sym.whole,cond_false,e,Int.natAbs_natCast];exact this
 |true =>
  have:=rQ.e0 true m _ (trim m h) rfl;have e:decide (((words (nat m)).length:Int)>0)=decide (-(nat m:Int)<0):=by
   have:=dO (n:=nat m);by_cases h0:nat m=0
   ·have h1:=this.2 h0;simp[h0,fW]
   ·have h1:¬(words (nat m)).length=0:=fun h=>h0 (this.1 h)
    rw[ag6 (by omega),ag6 (by omega)]
  rw[e] at this;simpa[Sym.whole] using this
def wd(m:Words)(i:Nat):Nat:=match m[i]? with
 |some w=>w.toNat
 |none=>0
theorem oq(m:Words)(i:Nat):wd m i<4294967296:=by
 unfold wd;cases m[i]? with
 |none=>simp
 |some w=>exact jK w
theorem j8{m:Words}{i:Nat}{v:UInt32}(h:m[i]? = some v):wd m i=v.toNat:=by unfold wd;rw[h]
theorem yA{m:Words}{i:Nat}(h:m.length≤i):wd m i=0:=by unfold wd;rw[ag3 h]
theorem ew(m:Words)(k:Nat):nat (m.take (k+1))=nat (m.take k)+4294967296^k*wd m k:=by
 by_cases h:k<m.length
 ·have hv:=afp h;rw[bR hv,j8 hv]
 ·rw[aV (by omega),aV (by omega),yA (by omega)];omega
theorem word(m:Words)(i:Nat):Cp 189 [af m,vI (i:Int)] (vU (wd m i)):=by
 unfold wd;cases h:m[i]? with
 |none =>have:=ahW.1 h;exact s9.e1 m i (by omega)
 |some v =>have:=(afs.1 h).1;exact s9.e0 m i i v (by omega) rfl h
theorem plus(a b:Words)(ha:a.length≤2199023255552)(hb:b.length≤2199023255552):Cp 140 [af a,af b] (af (words (nat a+nat b))):=by
 have hm:max a.length b.length≤2199023255552:=by omega
 have loop:∀(j t carry:Nat) (site:Words),max a.length b.length+1-t=j→t≤max a.length b.length+1→site.length=max a.length b.length+1→carry≤1 →
   nat (site.take t)+4294967296^t*carry=nat (a.take t)+nat (b.take t)→mH.ah a b carry t site (af (words (nat a+nat b))):=by
  intro j
  induction j with
  |zero =>
   intro t carry site hj ht hs hc hinv;have yh:t=max a.length b.length+1:=by omega
   have KU:nat site=nat a+nat b:=by
    rw[aV (by omega),aV (by omega),aV (by omega)] at hinv;have h1:=eQ a;have h2:=eQ b;have h3:=mV (show a.length≤t-1 by omega);have h4:=mV (show b.length≤t-1 by omega);have h5:(4294967296:Nat)^t=4294967296^(t-1)*4294967296:=by rw[←afM];congr 1;omega
    have Fy:carry=0:=by
     cases carry with
     |zero=>rfl
     |succ c =>have h6:4294967296^t*1≤4294967296^t*(c+1):=afO _ (by omega);omega
    subst Fy;simpa using hinv
   have:=mH.cB a b carry t site (words (nat site)) (by omega) (by omega) (trim site (by omega));rwa[KU] at this
  |succ j ih =>
   intro t carry site hj ht hs hc hinv;have h1:=oq a t;have h2:=oq b t;obtain⟨w,hw⟩:=iR ((carry+(wd a t+wd b t))%4294967296) (by omega);refine mH.l10 a b carry t site _ _ (wd a t+wd b t) (carry+(wd a t+wd b t)) w _ (by omega) (word a t) (word b t) (by omega) (by omega) hw.symm (by omega) rfl (by omega) ?_;refine ih (t+1) _ (site.set t w) (by omega) (by omega) (by simpa using hs) (by simp;omega) ?_;rw[hZ (by omega),ew a t,ew b t,hw];have h5:(4294967296:Nat)^(t+1)=4294967296^t*4294967296:=afM ..;rw[h5,afZ];have h6:4294967296^t*((carry+(wd a t+wd b t))%4294967296)+4294967296^t*(4294967296*((carry+(wd a t+wd b t))/2^min 32 64))=4294967296^t*carry+4294967296^t*wd a t+4294967296^t*wd b t:=by
    rw[←afU,←afU,←afU]
    congr 1
    have:(2:Nat)^min 32 64=4294967296:=by decide
    rw[this];omega
   omega
 exact mH.e0 a b (by omega) (by omega) (loop _ 0 0 _ rfl (by omega) (by simp) (by omega) (by simp[nat]))
end cV
def ef(a b:Int):Int:=if a<b then -1 else if a=b then 0 else 1
theorem rA{a b:Int}(h:a<b):ef a b = -1:=by simp[ef,h]
theorem pd{a b:Int}(h:b<a):ef a b=1:=by unfold ef;rw[afG (by omega),afG (by omega)]
theorem BX{a b:Int}(h:a=b):ef a b=0:=by unfold ef;rw[afG (by omega),afI h]
theorem Ac(l:Words)(k:Nat){v:UInt32}(h:l[k]? = some v):nat l=nat (l.take k)+4294967296^k*v.toNat+4294967296^(k+1)*nat (l.drop (k+1)):=by have hk:=(afs.1 h).1;rw[kJ l k (by omega),ss h,afM,afU,afZ];omega
theorem DF{a b:Words}{k:Nat}{v w:UInt32}(ha:a[k]? = some v)(hb:b[k]? = some w)(hd:a.drop (k+1)=b.drop (k+1))(h:v.toNat<w.toNat):nat a<nat b:=by rw[Ac a k ha,Ac b k hb,hd];have h1:=eQ (a.take k);have h2:=mV (show (a.take k).length≤k by simp;omega);have h3:4294967296^k*(v.toNat+1)≤4294967296^k*w.toNat:=afO _ h;rw[afU] at h3;omega
namespace cV
theorem compare(a b:Words)(ha:cn a=true)(hb:cn b=true)(hl:a.length<9223372036854775808):Cp 104 [af a,af b] (vI (ef (nat a) (nat b))):=by
 by_cases hlen:a.length=b.length
 ·have loop:∀n:Nat,n≤a.length→a.drop n=b.drop n→ec.ah a b ((n:Int)-1) (vI (ef (nat a) (nat b))):=by
   intro n
   induction n with
   |zero =>
    intro _ hd;have:a=b:=by simpa using hd
    rw[BX (by rw[this])];exact ec.tN a b _ (by omega)
   |succ n ih =>
    intro hn hd;obtain⟨v,hv⟩:∃v,a[n]? = some v:=⟨_,afp (by omega)⟩;obtain⟨w,hw⟩:∃w,b[n]? = some w:=⟨_,afp (by omega)⟩;by_cases he:v.toNat=w.toNat
    ·refine ec.jT a b _ n v n w (by omega) (by omega) hv (by omega) hw he (by unfold ay;omega) ?_;rw[show ((n+1:Nat):Int)-1-1=(n:Int)-1 from by omega];refine ih (by omega) ?_;have h1:=List.getElem_of_getElem? hv;obtain⟨h1,h2⟩:=afs.1 hv;obtain⟨h3,h4⟩:=afs.1 hw;rw[ah3 h1,ah3 h3,h2,h4,hd,Vy he]
    ·by_cases dI:v.toNat<w.toNat
     ·rw[rA (by have:=DF hv hw hd dI;omega)];exact ec.l10 a b _ n v n w n v n w (by omega) (by omega) hv (by omega) hw he (by omega) hv (by omega) hw dI
     ·rw[pd (by have:=DF hw hv hd.symm (by omega);omega)];exact ec.cB a b _ n v n w n v n w (by omega) (by omega) hv (by omega) hw he (by omega) hv (by omega) hw (by omega)
  refine ec.e2 a b hlen (by unfold ay;omega) (loop a.length (afy _) ?_);rw[afV (afy _),afV (by omega)]
 ·have key:∀x y:Words,cn y=true→x.length<y.length→nat x<nat y:=by
   intro x y hy dI;have h1:=eQ x;have h2:=IQ hy (by intro e;rw[e] at dI;simp at dI);have h3:=mV (show x.length≤y.length-1 by omega);omega
  by_cases dI:a.length<b.length
  ·rw[rA (by have:=key a b hb dI;omega)];exact ec.e0 a b hlen dI
  ·rw[pd (by have:=key b a ha (by omega);omega)];exact ec.e1 a b hlen (by omega)
theorem less(a b:Words)(ha:a.length≤2199023255552)(fQ:nat b≤nat a):Cp 141 [af a,af b] (af (words (nat a-nat b))):=by
 have loop:∀(j t borrow:Nat) (site:Words),a.length-t=j→t≤a.length→site.length=a.length→borrow≤1 →
   nat (site.take t)+nat (b.take t)=nat (a.take t)+4294967296^t*borrow→mI.ah a b borrow t site (af (words (nat a-nat b))):=by
  intro j
  induction j with
  |zero =>
   intro t borrow site hj ht hs hc hinv;have yh:t=a.length:=by omega
   have KU:nat site=nat a-nat b:=by
    subst yh;rw[aV (by omega),aV (l:=a) (by omega)] at hinv;have h1:=eQ a;have h2:=eQ site;rw[hs] at h2;have h3:nat (b.take a.length)=nat b:=by
     by_cases hl:b.length≤a.length
     ·exact aV hl
     ·have h4:=kJ b a.length (by omega);have h5:nat (b.drop a.length)=0:=by
       refine agJ fun hp => ?_
       have:=afO (4294967296^a.length) hp;omega
      rw[h5] at h4;omega
    have L7:borrow=0:=by
     refine agJ fun hp => ?_
     have:=afO (4294967296^a.length) hp;omega
    subst L7;omega
   have:=mI.cB a b borrow t site (words (nat site)) (by omega) (by omega) (trim site (by omega));rwa[KU] at this
  |succ j ih =>
   intro t borrow site hj ht hs hc hinv;obtain⟨v,hv⟩:∃v,a[t]? = some v:=⟨_,afp (by omega)⟩;have h1:=jK v;have h2:=oq b t;have hz:∃(d d1 x nb:Nat),((v.toNat:Nat)-(wd b t:Nat):Int)%18446744073709551616=(d:Int)∧((d:Nat)-(borrow:Nat):Int)%18446744073709551616=(d1:Int)∧d1%4294967296=x∧d1/2^min 63 64=nb∧nb≤1∧x<4294967296∧x+wd b t+borrow=v.toNat+4294967296*nb:=by
    refine⟨(((v.toNat:Nat)-(wd b t:Nat):Int)%18446744073709551616).toNat,((((v.toNat:Nat)-(wd b t:Nat):Int)%18446744073709551616-borrow)%18446744073709551616).toNat,_,_,by omega,by omega,rfl,rfl,?_⟩;have e:(2:Nat)^min 63 64=9223372036854775808:=by decide
    rw[e];generalize wd b t=q at *;generalize v.toNat=p at *;by_cases RZ:q+borrow≤p
    ·have e1:(((p:Int)-(q:Int))%18446744073709551616-borrow)%18446744073709551616=(p:Int)-q-borrow:=by omega
     rw[e1];omega
    ·have e1:(((p:Int)-(q:Int))%18446744073709551616-borrow)%18446744073709551616=(p:Int)-q-borrow+18446744073709551616:=by omega
     rw[e1];omega
   obtain⟨d,d1,x,nb,g1,g2,g3,g4,g5,g6,g7⟩:=hz;obtain⟨w,hw⟩:=iR x g6;refine mI.l10 a b borrow t site v _ d d1 w nb (by omega) hv (word b t) g1 g2 (by omega) (by omega) g4 (by omega) ?_;refine ih (t+1) nb (site.set t w) (by omega) (by omega) (by simpa using hs) g5 ?_;rw[hZ (by omega),bR hv,ew b t,hw,afM,afZ];have h6:4294967296^t*x+4294967296^t*wd b t+4294967296^t*borrow=4294967296^t*v.toNat+4294967296^t*(4294967296*nb):=by rw[←afU,←afU,←afU,g7]
   omega
 exact mI.e0 a b (by omega) (loop _ 0 0 _ rfl (by omega) (by simp) (by omega) (by simp[nat]))
theorem yB{p q:Nat}(hp:p<4294967296)(hq:q<4294967296):p*q≤18446744065119617025:=by have:=ag7 (show p≤4294967295 by omega) (show q≤4294967295 by omega);omega
theorem times(a b:Words)(ha:a.length≤2199023255552)(hb:b.length≤2199023255552):Cp 108 [af a,af b] (af (words (nat a*nat b))):=by
 have inner:∀(i:Nat) (v:UInt32) (r:PV),i<a.length→(∀site:Words,site.length=a.length+b.length→nat site=nat (a.take i)*nat b+4294967296^i*(v.toNat*nat b)→(∀q,i+1+b.length≤q→q<site.length→wd site q=0)→fJ.ah b a (i+1) site r) →
   ∀(j k carry:Nat) (site:Words),b.length-k=j→k≤b.length→site.length=a.length+b.length→carry<4294967296→(∀q,i+b.length≤q→q<site.length→wd site q=0) →
   nat site+4294967296^(i+k)*carry=nat (a.take i)*nat b+4294967296^i*(v.toNat*nat (b.take k))→fJ.a8 b a i v carry i k site r:=by
  intro i v r hi Km j
  induction j with
  |zero =>
   intro k carry site hj hk hs hc hz hinv;have hke:k=b.length:=by omega
   subst hke;obtain⟨w,hw⟩:=iR carry hc;refine fJ.xe b a i v carry i b.length site w (by omega) (by omega) (by omega) (by omega) (by omega) (by omega) (Km _ (by simpa using hs) ?_ ?_)
   ·obtain⟨u,hu⟩:∃u,site[i+b.length]? = some u:=⟨_,afp (by omega)⟩;have h0:=hz (i+b.length) (by omega) (by omega);rw[j8 hu] at h0;have h1:=rz site (i+b.length) w u hu;rw[h0,hw] at h1;rw[aV (l:=b) (by omega)] at hinv;omega
   ·intro q WE En;rw[ai1] at En;have:=hz q (by omega) En;unfold wd at this ⊢;rw[agF (by omega)];exact this
  |succ j ih =>
   intro k carry site hj hk hs hc hz hinv;obtain⟨u,hu⟩:∃u,b[k]? = some u:=⟨_,afp (by omega)⟩;obtain⟨x,hx⟩:∃x,site[i+k]? = some x:=⟨_,afp (by omega)⟩;have h1:=yB (jK v) (jK u);have h2:=jK x;generalize hp:v.toNat*u.toNat=p at *;obtain⟨w,hw⟩:=iR ((carry+(p+x.toNat))%4294967296) (by omega);have e:(2:Nat)^min 32 64=4294967296:=by decide
   refine fJ.uF b a i v carry i k site u p x (p+x.toNat) (carry+(p+x.toNat)) w ((carry+(p+x.toNat))/4294967296) (by omega) hu (by rw[hp];omega) (by omega) (by omega) hx (by omega) (by omega) hw.symm (by omega) (by rw[e]) (by omega) ?_;refine ih (k+1) _ (site.set (i+k) w) (by omega) (by omega) (by simpa using hs) (by omega) ?_ ?_
   ·intro q WE En;rw[ai1] at En;have:=hz q WE En;unfold wd at this ⊢;rw[agF (by omega)];exact this
   ·have g1:=rz site (i+k) w x hx;rw[hw] at g1;rw[bR hu,show i+(k+1)=i+k+1 from rfl,afM,afZ];have g2:4294967296^(i+k)*((carry+(p+x.toNat))%4294967296)+4294967296^(i+k)*(4294967296*((carry+(p+x.toNat))/4294967296))=4294967296^(i+k)*carry+4294967296^(i+k)*p+4294967296^(i+k)*x.toNat:=by
     rw[←afU,←afU,←afU];congr 1;omega
    have g3:4294967296^i*(v.toNat*(nat (b.take k)+4294967296^k*u.toNat))=4294967296^i*(v.toNat*nat (b.take k))+4294967296^(i+k)*p:=by
     rw[←hp,ahq,afU,afU]
     congr 1
     rw[afZ];congr 1;rw[aim]
    omega
 have loop:∀(j t:Nat) (site:Words),a.length-t=j→t≤a.length→site.length=a.length+b.length→nat site=nat (a.take t)*nat b→(∀q,t+b.length≤q→q<site.length→wd site q=0) →
   fJ.ah b a t site (af (words (nat a*nat b))):=by
  intro j
  induction j with
  |zero =>intro t site hj ht hs hinv _;rw[aV (by omega)] at hinv;have:=fJ.cB b a t site (words (nat site)) (by omega) (by omega) (trim site (by omega));rwa[hinv] at this
  |succ j ih =>
   intro t site hj ht hs hinv hz;obtain⟨v,hv⟩:∃v,a[t]? = some v:=⟨_,afp (by omega)⟩;refine fJ.l10 b a t site v (by omega) hv ?_;refine inner t v _ (by omega) (fun PK OD Xa Rm => ?_) _ 0 0 site rfl (by omega) hs (by omega) hz ?_
   ·refine ih (t+1) PK (by omega) (by omega) OD ?_ Rm;rw[Xa,bR hv,age,afZ]
   ·simp[nat,hinv]
 refine fJ.e0 a b (by omega) (by omega) (loop _ 0 _ rfl (by omega) (by simp) (by simp[nat,nQ]) ?_);intro q _ hq;unfold wd;rw[agL];split
 ·rename_i w h;split at h
  ·injection h with h;subst h;rfl
  ·cases h
 ·rfl
theorem GV{x y:Nat}(hx:x<4294967296)(hy:y<4294967296):((x*4294967296)%18446744073709551616) ||| (y%18446744073709551616)=x*4294967296+y:=by rw[ag1 (by omega),ag1 (by omega),agr];exact(ahr (i:=32) hy x).symm
theorem short(a:Words)(b:UInt32)(ha:a.length≤2199023255552)(hb:b.toNat≠0):Cp 143 [af a,vW b] (.aF [af (words (nat a/b.toNat)),vW (UInt32.ofNat (nat a%b.toNat))]):=by
 have Fv:=jK b;have loop:∀(n rest:Nat) (site:Words),n≤a.length→site.length=a.length→rest<b.toNat→nat (a.drop n)=nat (site.drop n)*b.toNat+rest →
   lx.ah a b rest ((n:Int)-1) site (.aF [af (words (nat a/b.toNat)),vW (UInt32.ofNat (nat a%b.toNat))]):=by
  intro n
  induction n with
  |zero =>
   intro rest site _ hs hr hinv;simp only[List.drop_zero] at hinv;have h1:nat a/b.toNat=nat site:=by rw[hinv,agr,aiT (by omega),ahG hr,aha]
   have h2:nat a%b.toNat=rest:=by rw[hinv,agr,ajh,ag1 hr]
   have hw:rest%4294967296=(UInt32.ofNat rest).toNat:=(vv rest).symm;rw[h1,h2];exact lx.cB a b rest _ site (words (nat site)) _ (by omega) hs.symm (trim site (by omega)) hw
  |succ n ih =>
   intro rest site hn hs hr hinv;obtain⟨v,hv⟩:∃v,a[n]? = some v:=⟨_,afp (by omega)⟩;have Cz:=jK v;have e:(2:Nat)^min 32 64=4294967296:=by decide
   have hq:(rest*4294967296+v.toNat)/b.toNat<4294967296:=by rw[ahC (by omega)];have:=afw 4294967296 (show rest+1≤b.toNat by omega);rw[age] at this;rw[agr 4294967296];omega
   obtain⟨w,hw⟩:=iR _ hq;refine lx.l10 a b rest _ site _ n v (rest*4294967296+v.toNat) ((rest*4294967296+v.toNat)/b.toNat) w n ((rest*4294967296+v.toNat)%b.toNat) (by omega) rfl (by omega) hv ?_ hb (by omega) (by omega) (by omega) (by omega) (by omega) rfl (by unfold ay;omega) ?_
   ·rw[e,ag1 (show rest*4294967296<18446744073709551616 by omega)];exact(by have:=GV (show rest<4294967296 by omega) Cz;rw[ag1 (show rest*4294967296<18446744073709551616 by omega)] at this;rw[ag1 (show rest*4294967296<18446744073709551616 by omega)];exact this)
   ·rw[show ((n+1:Nat):Int)-1-1=(n:Int)-1 from by omega];refine ih _ (site.set n w) (by omega) (by simpa using hs) (ahd _ (by omega)) ?_;rw[ss hv,ss (l:=site.set n w) (v:=w) (by rw[aib (by omega)]),List.drop_set_of_lt (by omega),hinv,hw];have h5:=ahe (rest*4294967296+v.toNat) b.toNat;generalize (rest*4294967296+v.toNat)/b.toNat=q at *;generalize (rest*4294967296+v.toNat)%b.toNat=m at *;generalize nat (site.drop (n+1))=S at *;generalize b.toNat=B at *;rw[age,afU,agr q B];rw[←afZ];omega
 have:=lx.e0 a b (r:=_) (by omega) (by unfold ay;omega) (loop a.length 0 _ (afy _) (by simp) (by omega) (by rw[List.drop_of_length_le (Nat.le_refl _),List.drop_of_length_le (by simp)];simp[nat]));exact this
end cV
def blen(n:Nat):Nat:=bif Nat.beq n 0 then 0 else Nat.log2 n+1
theorem Sh{n k:Nat}(h1:2^k≤n)(h2:n<2^(k+1)):blen n=k+1:=by
 have h0:n≠0:=by have:=agm k;omega
 have hb:Nat.beq n 0=false:=by
  cases hb:Nat.beq n 0 with
  |true=>exact absurd (afB hb) h0
  |false=>rfl
 unfold blen;rw[hb,afP]
 congr 1
 have g1:=(Nat.le_log2 h0).2 h1;have g2:=(Nat.log2_lt h0).2 h2;omega
theorem vx:blen 0=0:=rfl
theorem vy{n:Nat}(h:n≠0):∃k,blen n=k+1∧2^k≤n∧n<2^(k+1):=by
 have hb:Nat.beq n 0=false:=by
  cases hb:Nat.beq n 0 with
  |true=>exact absurd (afB hb) h
  |false=>rfl
 refine⟨Nat.log2 n,?_,Nat.log2_self_le h,Nat.lt_log2_self⟩;unfold blen;rw[hb,afP]
theorem uP{n k:Nat}(h:2^k≤n):blen n=k+blen (n/2^k):=by
 have hk:=agm k;have h0:n/2^k≠0:=by have:=Nat.div_pos h hk;omega
 obtain⟨m,h1,h2,h3⟩:=vy h0;have:=Sh (n:=n) (k:=k+m) (by
  rw[ahq];have:=afO (2^k) h2;have:=Nat.mul_div_le n (2^k);omega) (by
  have h4:=(ahC hk).1 h3;rw[←ahq] at h4;rw[show k+m+1=m+1+k from by omega];exact h4)
 omega
theorem tq{n k:Nat}(h:n<2^k):blen n≤k:=by
 by_cases h0:n=0
 ·subst h0;simp[vx]
 ·obtain⟨m,h1,h2,_⟩:=vy h0;have:=(Nat.pow_lt_pow_iff_right (a:=2) (by omega)).1 (ah5 h2 h);omega
theorem Si(n:Nat):n<2^blen n:=by
 by_cases h0:n=0
 ·subst h0;simp[vx]
 ·obtain⟨m,h1,_,h3⟩:=vy h0;rw[h1];exact h3
namespace TC
def tbl:ByteArray:=(ByteArray.mk #[0,1,2,2,3,3,3,3,4,4,4,4,4,4,4,4,5,5,5,5,5,5,5,5,5,5,5,5,5,5,5,5,6,6,6,6,6,6,6,6,6,6,6,6,6,6,6,6,6,6,6,6,6,6,6,6,6,6,6,6,6,6,6,6,7,7,7,7,7,7,7,7,7,7,7,7,7,7,7,7,7,7,7,7,7,7,7,7,7,7,7,7,7,7,7,7,7,7,7,7,7,7,7,7,7,7,7,7,7,7,7,7,7,7,7,7,7,7,7,7,7,7,7,7,7,7,7,7,8,8,8,8,8,8,8,8,8,8,8,8,8,8,8,8,8,8,8,8,8,8,8,8,8,8,8,8,8,8,8,8,8,8,8,8,8,8,8,8,8,8,8,8,8,8,8,8,8,8,8,8,8,8,8,8,8,8,8,8,8,8,8,8,8,8,8,8,8,8,8,8,8,8,8,8,8,8,8,8,8,8,8,8,8,8,8,8,8,8,8,8,8,8,8,8,8,8,8,8,8,8,8,8,8,8,8,8,8,8,8,8,8,8,8,8,8,8,8,8,8,8,8,8,8,8,8,8])
theorem Sj:(List.range 256).all (fun m=>((tbl.data.toList[m]?).map fun b=>(b.toNat:Int))==some (blen m:Int))=true:=by decide +kernel
theorem GW{m:Nat}(h:m<256):((tbl.data.toList[m]?).map fun b=>(b.toNat:Int))=some (blen m:Int):=by have:=Sj;rw[agb] at this;simpa using this m (by simpa using h)
theorem XD(x:UInt32):Cp 238 [vW x] (vI (blen x.toNat)):=by
 have hx:=jK x;have e16:(2:Nat)^min 16 32=65536:=by decide
 have e8:(2:Nat)^min 8 32=256:=by decide
 by_cases h1:65536≤x.toNat
 ·obtain⟨z,hz⟩:=iR (x.toNat/65536) (by omega);have b1:=uP (n:=x.toNat) (k:=16) h1;rw[show (2:Nat)^16=65536 from rfl] at b1;by_cases h2:256≤x.toNat/65536
  ·obtain⟨z1,IS⟩:=iR (x.toNat/65536/256) (by omega);have b2:=uP (n:=x.toNat/65536) (k:=8) h2;rw[show (2:Nat)^8=256 from rfl] at b2;have b3:=tq (n:=x.toNat/65536/256) (k:=8) (by rw[show (2:Nat)^8=256 from rfl];omega);have:=jG.e0 x z z1 (x.toNat/65536/256) (blen (x.toNat/65536/256)) h1 (by rw[e16,hz]) (by omega) (by rw[e8,IS,hz]) (by omega) (GW (by omega)) (by omega) (by omega);rw[b1,b2,←aiQ];exact this
  ·have b3:=tq (n:=x.toNat/65536) (k:=8) (by rw[show (2:Nat)^8=256 from rfl];omega);have:=jG.e1 x z (x.toNat/65536) (blen (x.toNat/65536)) h1 (by rw[e16,hz]) (by omega) (by omega) (GW (by omega)) (by omega) (by omega);rw[b1];exact this
 ·by_cases h2:256≤x.toNat
  ·obtain⟨z,hz⟩:=iR (x.toNat/256) (by omega);have b1:=uP (n:=x.toNat) (k:=8) h2;rw[show (2:Nat)^8=256 from rfl] at b1;have b3:=tq (n:=x.toNat/256) (k:=8) (by rw[show (2:Nat)^8=256 from rfl];omega);have:=jG.e2 x z (x.toNat/256) (blen (x.toNat/256)) (by omega) h2 (by rw[e8,hz]) (by omega) (GW (by omega)) (by omega) (by omega);rw[b1];exact this
  ·have b3:=tq (n:=x.toNat) (k:=8) (by rw[show (2:Nat)^8=256 from rfl];omega);have:=jG.e3 x x.toNat (blen x.toNat) (by omega) (by omega) (by omega) (GW (by omega)) (by omega) (by omega);rw[agl] at this;exact this
theorem DG(x:UInt32):Cp 218 [vW x] (vI ((32-blen x.toNat:Nat):Int)):=by have h:=tq (n:=x.toNat) (k:=32) (jK x);have:=ly.e0 x _ (XD x) (by unfold ay;omega);rw[show ((32-blen x.toNat:Nat):Int)=32-(blen x.toNat:Int) from by omega];exact this
end TC
theorem Fz{s:Nat}(hs:s≤32):2^s*2^(32-s)=4294967296:=by rw[←ahq,show s+(32-s)=32 from by omega]
namespace cV
theorem Sk{v1 v:Nat}{s:Nat}(hs:s<32)(h1:v1<2^s)(hv:v<4294967296) :
  ∃y w z x,(v*2^min s 64)%18446744073709551616=y∧y%4294967296=w∧(v1%4294967296) ||| (w%4294967296)=z∧z<4294967296∧y/4294967296=x∧x<2^s∧w<4294967296∧z+4294967296*x=v1+v*2^s:=by
 have e:=Fz (show s≤32 by omega);have hp:=agm s;have hle:2^s≤2147483648:=by have:=afH (n:=2) (by omega) (show s≤31 by omega);simpa using this
 have OU:min s 64=s:=by omega
 rw[OU];have hb:v*2^s<18446744073709551616:=by have:=ag7 (show v≤4294967295 by omega) hle;omega
 rw[ag1 hb];generalize hP:2^s=p at *;generalize hQ:2^(32-s)=q at *;have hw:(v*p)%4294967296=p*(v%q):=by rw[←e,agr v p,Nat.mul_mod_mul_left]
 have hx:(v*p)/4294967296=v/q:=by rw[←e,agr v p,Nat.mul_div_mul_left _ _ hp]
 have hq:0<q:=by rw[←hQ];exact agm _
 have hm:=ahd v hq;have dI:p*(v%q)+p≤4294967296:=by have:=afO p (show v%q+1≤q by omega);rw[afU,e] at this;omega
 have WG:v1 ||| p*(v%q)=p*(v%q)+v1:=by rw[Nat.or_comm];subst hP;exact(ahr h1 (v%q)).symm
 refine⟨_,_,_,_,rfl,rfl,rfl,?_,rfl,?_,by omega,?_⟩
 ·rw[hw,ag1 (show v1<4294967296 by omega),ag1 (show p*(v%q)<4294967296 by omega),WG];omega
 ·rw[hx,ahC hq,e];exact hv
 ·rw[hw,ag1 (show v1<4294967296 by omega),ag1 (show p*(v%q)<4294967296 by omega),WG,hx];have:=ahe v q;have h3:p*v=p*(q*(v/q))+p*(v%q):=by rw[←afU,this]
  rw[←afZ,e] at h3;rw[agr v p];omega
def Sl(a:Words)(s t:Nat)(site:Words):Prop:=site.length=a.length+1∧nat site=nat (a.take t)*2^s∧(∀q,t<q→q<site.length→wd site q=0)∧wd site t<2^s
theorem Sm{a:Words}{s t:Nat}{site:Words}{v v1 z x:UInt32}(hi:Sl a s t site)(ht:t<a.length)(hv:a[t]? = some v)(GX:site[t]? = some v1)(hx:x.toNat<2^s)(he:z.toNat+4294967296*x.toNat=v1.toNat+v.toNat*2^s) :
  Sl a s (t+1) ((site.set t z).set (t+1) x):=by
 obtain⟨h1,h2,h3,h4⟩:=hi;refine⟨by simpa using h1,?_,fun q WE En => ?_,?_⟩
 ·obtain⟨u,hu⟩:∃u,(site.set t z)[t+1]? = some u:=⟨_,afp (by simp;omega)⟩;have RH:u.toNat=0:=by
   have:=h3 (t+1) (by omega) (by omega);rw[agF (by omega)] at hu;rw[j8 hu] at this;exact this
  have g1:=rz site t z v1 GX;have g2:=rz (site.set t z) (t+1) x u hu;rw[RH,aji,aha,afM,afZ] at g2;rw[bR hv,age,←h2];have g3:4294967296^t*z.toNat+4294967296^t*(4294967296*x.toNat)=4294967296^t*v1.toNat+4294967296^t*v.toNat*2^s:=by rw[←afU,he,afU,afZ]
  omega
 ·rw[ai1,ai1] at En;have:=h3 q (by omega) En;unfold wd at this ⊢;rw[agF (by omega),agF (by omega)];exact this
 ·rw[j8 (v:=x) (by rw[aib (by simp;omega)])];exact hx
theorem Sn(a:Words)(s:Nat):Sl a s 0 (List.replicate (a.length+1) (0:UInt32)):=by
 refine⟨by simp,by simp[nat,nQ],fun q _ hq => ?_,?_⟩
 ·unfold wd;rw[agL];rw[agy] at hq;rw[afI hq];rfl
 ·unfold wd;rw[agL,afI (by omega)];exact agm s
theorem up(a:Words)(s:Nat)(ha:a.length≤2199023255552)(hs:s<32):∃z:Words,z.length=a.length+1∧nat z=nat a*2^s∧Cp 219 [af a,vI (s:Int)] (af z) ∧
  au bu 219 [.pv (af a),.pv (vI (s:Int))] [] (.row 0 0 (a.length+1) 1) [(0,(.pure ((z:List UInt32).map aj).flatten))]:=by
 have loop:∀(j t:Nat) (site:Words),a.length-t=j→t≤a.length→Sl a s t site →
   ∃z:Words,z.length=a.length+1∧nat z=nat a*2^s∧pR.ah (s:Int) a t site (af z)∧od.ah (s:Int) a t site [] (.row 0 0 (a.length+1) 1) [(0,(.pure ((z:List UInt32).map aj).flatten))]:=by
  intro j
  induction j with
  |zero =>intro t site hj ht hi;obtain⟨h1,h2,_,_⟩:=hi;rw[aV (by omega)] at h2;exact⟨site,h1,h2,pR.cB _ a t site (by omega) h1.symm,by have h9:=od.cB (s:Int) a t site (sin:=[]) rfl rfl (by omega);rw[afD (by omega)] at h9;exact h9⟩
  |succ j ih =>
   intro t site hj ht hi;obtain⟨v,hv⟩:∃v,a[t]? = some v:=⟨_,afp (by omega)⟩;obtain⟨v1,GX⟩:∃v1,site[t]? = some v1:=⟨_,afp (by have:=hi.1;omega)⟩;have aau:v1.toNat<2^s:=by have:=hi.2.2.2;rw[j8 GX] at this;exact this
   obtain⟨y,w,z,x,g1,g2,g3,g4,g5,g6,g7,g8⟩:=Sk hs aau (jK v);obtain⟨w',hw'⟩:=iR w g7;obtain⟨z',Rm⟩:=iR z g4;have hp:=afH (n:=2) (by omega) (show s≤32 by omega);have hp:2^s≤4294967296:=hp;obtain⟨x',zt⟩:=iR x (by omega);have e:(2:Nat)^min 32 64=4294967296:=by decide
   have hlen:=hi.1;obtain⟨zz,q1,q2,q3,q4⟩:=ih (t+1) _ (by omega) (by omega) (Sm hi (by omega) hv GX (x:=x') (z:=z') (by omega) (by rw[Rm,zt];exact g8));refine⟨zz,q1,q2,?_,?_⟩
   ·exact pR.l10 _ a t site v s y v1 w' z' x x' (by omega) hv rfl g1 (by omega) GX (by omega) (by rw[hw'];omega) (by omega) (by omega) (by rw[e];exact g5) (by omega) (by omega) (by simp;omega) q3
   ·exact od.l10 _ a t site v s y v1 w' z' x x' rfl (by omega) hv rfl g1 (by omega) GX (by omega) (by rw[hw'];omega) (by omega) (by omega) (by rw[e];exact g5) (by omega) (by omega) (by simp;omega) q4
 obtain⟨z,h1,h2,h3,h4⟩:=loop a.length 0 _ rfl (by omega) (Sn a s);exact⟨z,h1,h2,pR.e0 a _ (by omega) (by omega) h3,od.e0 a _ (by omega) (by omega) h4⟩
theorem So{x y:Nat}(hx:x<4294967296)(hy:y<4294967296):(x%18446744073709551616) ||| ((y*4294967296)%18446744073709551616%18446744073709551616)=y*4294967296+x:=by rw[Nat.or_comm,aiU];exact GV hy hx
theorem kq(a:Words)(t:Nat):nat (a.drop t)=wd a t+4294967296*nat (a.drop (t+1)):=by
 by_cases h:t<a.length
 ·have hv:=afp h;rw[ss hv,j8 hv]
 ·rw[afV (by omega),afV (by omega),yA (by omega)];rfl
theorem uQ(a:Words)(t:Nat)(ht:t≤a.length):nat a/4294967296^t=nat (a.drop t):=by have h1:=eQ (a.take t);rw[afK,agx ht] at h1;rw[kJ a t ht,aiu,aiT (by omega),ahG h1,aha]
theorem down(a:Words)(s:Nat)(ha:a.length≤2199023255552)(hs:s<32):Cp 222 [af a,vI (s:Int)] (af (words (nat a/2^s))):=by
 have hp:=agm s;have e2:=Fz (show s≤32 by omega);have loop:∀(j t:Nat) (site:Words),a.length-t=j→t≤a.length→site.length=a.length→nat (site.take t)=(nat a/2^s)%4294967296^t→mK.ah a (s:Int) t site (af (words (nat a/2^s))):=by
  intro j
  induction j with
  |zero =>
   intro t site hj ht hl hinv;have yh:t=a.length:=by omega
   subst yh;rw[aV (by omega),ag1 (ah5 (agP _ _) (eQ a))] at hinv;have:=mK.cB a (s:Int) a.length site (words (nat site)) (by omega) hl.symm (trim site (by omega));rwa[hinv] at this
  |succ j ih =>
   intro t site hj ht hl hinv;obtain⟨v,hv⟩:∃v,a[t]? = some v:=⟨_,afp (by omega)⟩;have h1:=jK v;have h2:=oq a (t+1);have e:(2:Nat)^min 32 64=4294967296:=by decide
   obtain⟨w,hw⟩:=iR ((wd a (t+1)*4294967296+v.toNat)/2^s%4294967296) (ahd _ (by omega));refine mK.l10 a (s:Int) t site v (wd a (t+1)) _ (wd a (t+1)*4294967296+v.toNat) s ((wd a (t+1)*4294967296+v.toNat)/2^s) w (by omega) hv (by omega) (word a (t+1)) rfl (by rw[e];exact So h1 h2) rfl (by rw[show min s 64=s from by omega]) hw.symm (by omega) ?_;refine ih (t+1) (site.set t w) (by omega) (by omega) (by simpa using hl) ?_;rw[hZ (by omega),hinv,hw];have g1:nat a/2^s/4294967296^t=nat (a.drop t)/2^s:=by rw[ahw,agr,←ahw,uQ a t (by omega)]
   have g2:nat (a.drop t)/2^s%4294967296=(wd a (t+1)*4294967296+v.toNat)/2^s%4294967296:=by
    rw[kq a t,kq a (t+1),j8 hv];generalize nat (a.drop (t+1+1))=r;generalize wd a (t+1)=y;generalize v.toNat=x;generalize hP:2^s=p at *;generalize hQ:2^(32-s)=q at *;have:x+4294967296*(y+4294967296*r)=p*(4294967296*(q*r))+(y*4294967296+x):=by
     have:p*(4294967296*(q*r))=4294967296*(4294967296*r):=by rw[aim p 4294967296,←afZ p q r,e2]
     omega
    rw[this,aiT hp,ajh]
   have g3:=Nat.mod_mul (a:=4294967296^t) (b:=4294967296) (x:=nat a/2^s);rw[afM,g3,g1,g2]
 exact mK.e0 a (s:Int) (by omega) (loop _ 0 _ rfl (by omega) (by simp) (by simp[nat,Nat.mod_one]))
theorem vz{α:Type}(A U C:List α)(t:Nat)(x:α)(ht:t<U.length):(A++(U++C)).set (A.length+t) x=A++(U.set t x++C):=by rw[List.set_append_right _ _ (by omega),show A.length+t-A.length=t from by omega,List.set_append_left _ _ ht]
theorem iC{α:Type}(A U C:List α)(t:Nat)(x:α)(h:U[t]? = some x):(A++(U++C))[A.length+t]? = some x:=by have ht:=(afs.1 h).1;rw[agD (by omega),show A.length+t-A.length=t from by omega,ah0 ht];exact h
abbrev xL(A U C:Words):SC := .pure (((A++(U++C):List UInt32)).map aj).flatten
theorem remove(A U C v:Words)(n off len:Nat)(ho:off=A.length)(hlen:len=U.length)(hU:U.length≤2199023255553)(hn:n<4294967296)(hb:n*nat v<4294967296^U.length)(Cz:v.length≤U.length) :
  ∃(U':Words) (bo:Bool),U'.length=U.length∧((bo=false→nat U'+n*nat v=nat U)∧(bo=true→nat U'+n*nat v=nat U+4294967296^U.length)) ∧
   au bu 220 [.row 100000 off len 1,.pv (af v),.pv (vU n)] [(100000,xL A U C)] (.pv (vB bo)) [(100000,xL A U' C)]:=by
 subst ho;subst hlen;have loop:∀(j t carry borrow:Nat) (U0:Words),U.length-t=j→t≤U.length→U0.length=U.length→borrow≤1→carry<4294967296→4294967296^t*carry≤n*nat (v.take t)→(∀q,t≤q→U0[q]? = U[q]?) →
   nat (U0.take t)+n*nat (v.take t)=nat (U.take t)+4294967296^t*(carry+borrow) →
   ∃(U':Words) (bo:Bool),U'.length=U.length∧((bo=false→nat U'+n*nat v=nat U)∧(bo=true→nat U'+n*nat v=nat U+4294967296^U.length)) ∧
    kj.ah A.length U.length v n carry borrow t (A++(U0++C)) [(100000,xL A U C)] (.pv (vB bo)) [(100000,xL A U' C)]:=by
  intro j
  induction j with
  |zero =>
   intro t carry borrow U0 hj ht hl XE TF sF _ hinv;have yh:t=U.length:=by omega
   subst yh;rw[aV (l:=v) Cz] at hinv sF;rw[aV (by omega),aV (l:=U) (by omega)] at hinv;have Fy:carry=0:=by
    refine agJ fun hp => ?_
    have:=afO (4294967296^U.length) hp;omega
   subst Fy;refine⟨U0,decide ((borrow:Int)=1),hl,?_,?_⟩
   ·by_cases h1:borrow=1
    ·subst h1;exact⟨fun h=>by simp at h,fun _=>by rw[hinv];simp⟩
    ·have h0:borrow=0:=by omega
     subst h0;exact⟨fun _=>by rw[hinv];simp,fun h=>by simp at h⟩
   ·have:=kj.cB A.length U.length v n 0 borrow U.length (A++(U0++C)) (sin:=[(100000,xL A U C)]) rfl rfl (by omega);have e:((borrow:Int)==1)=decide ((borrow:Int)=1):=by
     by_cases h1:borrow=1
     ·subst h1;rfl
     ·have h0:borrow=0:=by omega
      subst h0;rfl
    rw[e] at this;exact this
  |succ j ih =>
   intro t carry borrow U0 hj ht hl XE TF sF gW hinv;obtain⟨x,hx⟩:∃x,U[t]? = some x:=⟨_,afp (by omega)⟩;have O3:U0[t]? = some x:=by rw[gW t (afy t)];exact hx
   have h1:=oq v t;have h2:=jK x;have h3:=yB hn h1;have e:(2:Nat)^min 32 64=4294967296:=by decide
   generalize hp:n*wd v t=p at *;obtain⟨lo,E8⟩:=iR ((carry+p)%4294967296) (by omega);have hz:∃(d d1 y nb:Nat),((x.toNat:Nat)-(lo.toNat:Nat):Int)%18446744073709551616=(d:Int)∧((d:Nat)-(borrow:Nat):Int)%18446744073709551616=(d1:Int)∧d1%4294967296=y∧d1/2^min 63 64=nb∧nb≤1∧y<4294967296∧y+lo.toNat+borrow=x.toNat+4294967296*nb:=by
    have Vz:=jK lo;refine⟨(((x.toNat:Nat)-(lo.toNat:Nat):Int)%18446744073709551616).toNat,((((x.toNat:Nat)-(lo.toNat:Nat):Int)%18446744073709551616-borrow)%18446744073709551616).toNat,_,_,by omega,by omega,rfl,rfl,?_⟩;have e:(2:Nat)^min 63 64=9223372036854775808:=by decide
    rw[e];generalize lo.toNat=q at *;generalize x.toNat=r at *;by_cases RZ:q+borrow≤r
    ·have e1:(((r:Int)-(q:Int))%18446744073709551616-borrow)%18446744073709551616=(r:Int)-q-borrow:=by omega
     rw[e1];omega
    ·have e1:(((r:Int)-(q:Int))%18446744073709551616-borrow)%18446744073709551616=(r:Int)-q-borrow+18446744073709551616:=by omega
     rw[e1];omega
   obtain⟨d,d1,y,nb,g1,g2,g3,g4,g5,g6,g7⟩:=hz;obtain⟨w,hw⟩:=iR y g6;have RK:=vz A U0 C t w (by omega);have hmul:n*nat (v.take (t+1))=n*nat (v.take t)+4294967296^t*p:=by rw[ew v t,afU,←hp,aim]
   have JU:=ahe (carry+p) 4294967296;have hA:4294967296^t*carry+4294967296^t*p=4294967296^t*(4294967296*((carry+p)/4294967296))+4294967296^t*lo.toNat:=by rw[E8,←afU,←afU,JU]
   have hB:4294967296^t*y+4294967296^t*lo.toNat+4294967296^t*borrow=4294967296^t*x.toNat+4294967296^t*(4294967296*nb):=by rw[←afU,←afU,←afU,g7]
   obtain⟨U',bo,q1,q2,q3⟩:=ih (t+1) ((carry+p)/4294967296) nb (U0.set t w) (by omega) (by omega) (by simpa using hl) g5 (by omega)
    (by rw[hmul,afM,afZ];omega)
    (fun q hq=>by rw[agF (by omega)];exact gW q (by omega))
    (by rw[hZ (by omega),hw,hmul,bR hx,afM,afZ,afU 4294967296,afU (4294967296^t)];rw[afU (4294967296^t) carry borrow] at hinv;omega)
   refine⟨U',bo,q1,q2,?_⟩;refine kj.l10 A.length U.length v n carry borrow t _ (wd v t) p (carry+p) x lo d d1 w nb ((carry+p)/4294967296) rfl (by omega) (word v t) (by rw[hp];omega) (by omega) (iC A U0 C t x O3) E8.symm g1 g2 (by omega) (by simp;omega) g4 (by rw[e]) (by omega) ?_;rw[RK];exact q3
 obtain⟨U',bo,h1,h2,h3⟩:=loop _ 0 0 0 U rfl (by omega) rfl (by omega) (by omega) (by simp) (fun _ _=>rfl) (by simp[nat]);exact⟨U',bo,h1,h2,kj.e0 (A++(U++C)) A.length U.length v n h3⟩
theorem back(A U C v:Words)(off len:Nat)(ho:off=A.length)(hlen:len=U.length)(hU:U.length≤2199023255553)(Cz:v.length≤U.length) :
  ∃(U':Words) (ca:Nat),U'.length=U.length∧ca≤1∧nat U'+4294967296^U.length*ca=nat U+nat v ∧
   au bu 221 [.row 100000 off len 1,.pv (af v)] [(100000,xL A U C)] (.pv (.aF [])) [(100000,xL A U' C)]:=by
 subst ho;subst hlen;have loop:∀(j t carry:Nat) (U0:Words),U.length-t=j→t≤U.length→U0.length=U.length→carry≤1→(∀q,t≤q→U0[q]? = U[q]?) →
   nat (U0.take t)+4294967296^t*carry=nat (U.take t)+nat (v.take t) →
   ∃(U':Words) (ca:Nat),U'.length=U.length∧ca≤1∧nat U'+4294967296^U.length*ca=nat U+nat v ∧
    mJ.ah A.length U.length v carry t (A++(U0++C)) [(100000,xL A U C)] (.pv (.aF [])) [(100000,xL A U' C)]:=by
  intro j
  induction j with
  |zero =>
   intro t carry U0 hj ht hl TF _ hinv;have yh:t=U.length:=by omega
   subst yh;rw[aV (l:=v) Cz] at hinv;rw[aV (by omega),aV (l:=U) (by omega)] at hinv;exact⟨U0,carry,hl,TF,hinv,mJ.cB A.length U.length v carry U.length (A++(U0++C)) (sin:=[(100000,xL A U C)]) rfl rfl (by omega)⟩
  |succ j ih =>
   intro t carry U0 hj ht hl TF gW hinv;obtain⟨x,hx⟩:∃x,U[t]? = some x:=⟨_,afp (by omega)⟩;have O3:U0[t]? = some x:=by rw[gW t (afy t)];exact hx
   have h1:=oq v t;have h2:=jK x;have e:(2:Nat)^min 32 64=4294967296:=by decide
   obtain⟨w,hw⟩:=iR ((carry+(x.toNat+wd v t))%4294967296) (by omega);have JU:=ahe (carry+(x.toNat+wd v t)) 4294967296;have hA:4294967296^t*carry+4294967296^t*x.toNat+4294967296^t*wd v t=4294967296^t*(4294967296*((carry+(x.toNat+wd v t))/4294967296))+4294967296^t*w.toNat:=by rw[hw,←afU,←afU,←afU,JU];congr 1;omega
   obtain⟨U',ca,q1,q2,q3,q4⟩:=ih (t+1) ((carry+(x.toNat+wd v t))/4294967296) (U0.set t w) (by omega) (by omega) (by simpa using hl) (by omega)
    (fun q hq=>by rw[agF (by omega)];exact gW q (by omega))
    (by rw[hZ (by omega),ew v t,bR hx,afM,afZ];omega)
   refine⟨U',ca,q1,q2,q3,?_⟩;refine mJ.l10 A.length U.length v carry t _ x (wd v t) (x.toNat+wd v t) (carry+(x.toNat+wd v t)) w _ rfl (by omega) (iC A U0 C t x O3) (word v t) (by omega) (by omega) hw.symm (by simp;omega) (by rw[e]) (by omega) ?_;rw[vz A U0 C t w (by omega)];exact q4
 obtain⟨U',ca,h1,h2,h3,h4⟩:=loop _ 0 0 U rfl (by omega) rfl (by omega) (fun _ _=>rfl) (by simp[nat]);exact⟨U',ca,h1,h2,h3,mJ.e0 (A++(U++C)) A.length U.length v h4⟩
end cV
set_option linter.unusedVariables false
section
variable {V R W top next hi lo head r0 bY rest:Nat}
structure Kn (V R W top next head lo r0:Nat):Prop where
 v1:(top*4294967296+next)*W≤V
 v2:V<(top*4294967296+next+1)*W
 r:R=(head*4294967296+lo)*W+r0
 r0:r0<W
 lo:lo<4294967296
 next:next<4294967296
 top:0<top
 rv:R<V*4294967296
theorem Kn.rlt(h:Kn V R W top next head lo r0):R<(head*4294967296+lo+1)*W:=by have h1:=h.r;have h2:=h.r0;rw[age _ 1,agV];omega
theorem Kn.PL(h:Kn V R W top next head lo r0):0<V∧4294967296*W≤V:=by have h1:=h.v1;have h2:=h.r0;have h3:4294967296*W≤(top*4294967296+next)*W:=afw _ (by have:=h.top;omega);omega
theorem Kn.start(h:Kn V R W top next head lo r0):R/V≤head/top:=by
 have hv:=h.PL.1;rw[←Nat.lt_succ_iff,ahC hv];have h1:head+1≤(head/top+1)*top:=by have:=Nat.lt_div_mul_add (a:=head) h.top;rw[age,agV];omega
 have h2:(head/top+1)*((top*4294967296+next)*W)≤(head/top+1)*V:=afO _ h.v1;have h3:(head*4294967296+lo+1)*W≤(head/top+1)*((top*4294967296+next)*W):=by rw[←afZ];refine afw _ ?_;rw[afU,←afZ];have:=afw 4294967296 h1;have:=h.lo;omega
 have:=h.rlt;show R<(head/top+1)*V;omega
theorem Kn.small(h:Kn V R W top next head lo r0):R/V<4294967296:=by rw[ahC h.PL.1,agr];exact h.rv
theorem Kn.less(h:Kn V R W top next head lo r0)(hg:bY*top+rest=head)(hc:rest*4294967296+lo<bY*next):R/V<bY:=by
 rw[ahC h.PL.1];have h2:bY*((top*4294967296+next)*W)≤bY*V:=afO _ h.v1;have h3:(head*4294967296+lo+1)*W≤bY*((top*4294967296+next)*W):=by rw[←afZ];refine afw _ ?_;rw[afU,←afZ,←hg,age];omega
 have:=h.rlt;omega
theorem Kn.fits(h:Kn V R W top next head lo r0)(hg:bY*top+rest=head)(hr:4294967296≤rest):bY<4294967296:=by
 refine ahP fun EC => ?_
 have h1:4294967296*top≤bY*top:=afw _ EC;have h2:(head*4294967296)*W≤R:=by rw[h.r,age];omega
 have h3:(4294967296*top+4294967296)*4294967296*W≤head*4294967296*W:=afw _ (afw _ (by omega));have h4:V*4294967296<(top*4294967296+next+1)*W*4294967296:=aii h.v2 (by omega);have h5:(top*4294967296+next+1)*W*4294967296≤(4294967296*top+4294967296)*W*4294967296:=afw _ (afw _ (by have:=h.next;omega));have h6:(4294967296*top+4294967296)*W*4294967296=(4294967296*top+4294967296)*4294967296*W:=by rw[Nat.mul_right_comm]
 have:=h.rv;omega
theorem Kn.aav(h:Kn V R W top next head lo r0)(hg:bY*top+rest=head)(hl:bY<4294967296)(hc:4294967296≤rest∨bY*next≤rest*4294967296+lo):bY≤R/V+1:=by
 have hv:=h.PL.1;cases bY with
 |zero=>exact ag0 _
 |succ g =>
  refine Nat.succ_le_succ ?_;rw[Nat.le_div_iff_mul_le hv];have h0:(g+1)*V≤(g+1)*((top*4294967296+next+1)*W):=afO _ (aiK h.v2);have h1:(g+1)*((top*4294967296+next+1)*W)=((g+1)*top*4294967296+(g+1)*next+(g+1))*W:=by rw[←afZ,afU,afU,ahF,afZ (g+1) top]
  have h2:=h.PL.2;have h3:(g+1)*V=g*V+V:=by rw[age,agV]
  have hr:(head*4294967296+lo)*W≤R:=by rw[h.r];omega
  rcases hc with hc|hc
  ·have h4:((g+1)*top*4294967296+(g+1)*next+(g+1))*W≤(head*4294967296+lo)*W:=by
    refine afw _ ?_;have h5:(g+1)*next+(g+1)≤(g+1)*4294967296:=by have:=afO (g+1) (show next+1≤4294967296 by have:=h.next;omega);rw[afU,ahF] at this;exact this
    rw[←hg,age];omega
   omega
  ·have h4:((g+1)*top*4294967296+(g+1)*next+(g+1))*W≤(head*4294967296+lo+4294967296)*W:=by
    refine afw _ ?_;rw[←hg,age];omega
   rw[age _ 4294967296] at h4;omega
end
namespace cV
theorem Sp(u:Words)(j n:Nat)(h:j+n≤u.length):nat (u.drop j)=nat ((u.drop j).take n)+4294967296^n*nat (u.drop (j+n)):=by have:=kJ (u.drop j) n (by simp;omega);rw[aj6] at this;exact this
theorem PM(U:Words)(n:Nat)(h:U.length=n+3){a b c:UInt32}(ha:U[n]? = some a)(hb:U[n+1]? = some b)(hc:U[n+2]? = some c) :
  nat U=((c.toNat*4294967296+b.toNat)*4294967296+a.toNat)*4294967296^n+nat (U.take n):=by
 have h1:=bR hc;have h2:=bR hb;have h3:=bR ha;rw[aV (by omega)] at h1;rw[h1,h2,h3];have e1:(4294967296:Nat)^(n+1)=4294967296^n*4294967296:=afM ..;have e2:(4294967296:Nat)^(n+2)=4294967296^n*4294967296*4294967296:=by rw[afM,e1]
 rw[e1,e2];generalize (4294967296:Nat)^n=P;grind
theorem PN(U:Words)(n:Nat)(h:U.length=n+2){a b:UInt32}(ha:U[n]? = some a)(hb:U[n+1]? = some b) :
  nat U=(b.toNat*4294967296+a.toNat)*4294967296^n+nat (U.take n):=by
 have h2:=bR hb;have h3:=bR ha;rw[aV (by omega)] at h2;rw[h2,h3];have e1:(4294967296:Nat)^(n+1)=4294967296^n*4294967296:=afM ..;rw[e1];generalize (4294967296:Nat)^n=P;grind
structure Dv (a b zb v:Words) (v1 v2:UInt32) (s n m V N:Nat):Prop where
 hv:v=zb.take b.length
 GY:s<32
 C9:a.length≤2199023255551
 hm:a.length+1=m+(n+2)
 Cz:v.length=n+2
 EM:nat v=V
 BA:V<4294967296^(n+2)
 Sr:0<V
 GX:v[n+1]? = some v1
 Ep:v[n]? = some v2
 L8:V=(v1.toNat*4294967296+v2.toNat)*4294967296^n+nat (v.take n)
 Rp:nat (v.take n)<4294967296^n
 IT:0<v1.toNat
 res:∀q r:Nat,N=q*V+r→r<V→nat a/nat b=q∧r/2^s=nat a%nat b
structure Pt (u U A C:Words) (n j R Q V:Nat):Prop where
 Oh:U.length=n+3
 Ss:A.length=j
 hu:u=A++(U++C)
 BB:R=nat U
 hQ:R/V=Q
 VA:nat C=0
 hR:R=nat (u.drop j)
 hj:j+(n+3)≤u.length
 zF:u.length≤2199023255552
theorem XF{g Q V R r P x:Nat}(JU:Q*V+r=R)(hx:x<P)(h2:x+g*V=R+P)(YX:Q≤g)(YY:g≤Q+1):g=Q+1∧x+V=r+P:=by
 rcases Nat.lt_or_ge Q g with h5|h5
 ·have h6:g=Q+1:=by omega
  rw[h6,age,agV] at h2;exact⟨h6,by omega⟩
 ·have h6:g=Q:=by omega
  rw[h6] at h2;omega
theorem XG{ca V r P x y:Nat}(h:y+P*ca=x+V)(hy:y<P)(h2:x+V=r+P)(hc:ca≤1):y=r:=by
 have TF:ca=0∨ca=1:=by omega
 rcases TF with rfl|rfl
 ·omega
 ·omega
theorem Su {a b zb v u U A C : Words} {v1 v2 : UInt32} {s n m V N j R Q : Nat} (dv : Dv a b zb v v1 v2 s n m V N) (pt : Pt u U A C n j R Q V) :
    ∀ bY : Nat, bY < 4294967296 → Q ≤ bY → bY ≤ Q + 1 → ∃ (U1 : Words) (bo : Bool) (U2 : Words), U1.length = n + 3 ∧
          au bu 220 [.row 100000 (0 + j * 1) (j + (n + 3) - j) 1, .pv (af (zb.take b.length)), .pv (vU bY)] [(100000, .pure ((u : List UInt32).map aj).flatten)] (.pv (vB bo)) [(100000, .pure (((A ++ (U1 ++ C) : List UInt32)).map aj).flatten)] ∧
          (bo = false → bY = Q ∧ nat U1 = R % V) ∧
          (bo = true → bY = Q + 1 ∧ 0 < bY ∧ U2.length = n + 3 ∧ nat U2 = R % V ∧
            au bu 221 [.row 100000 (0 + j * 1) (j + (n + 3) - j) 1, .pv (af (zb.take b.length))] [(100000, .pure (((A ++ (U1 ++ C) : List UInt32)).map aj).flatten)] (.pv (.aF [])) [(100000, .pure (((A ++ (U2 ++ C) : List UInt32)).map aj).flatten)]) := by
  obtain ⟨hv, GY, C9, hm, Cz, EM, BA, Sr, GX, Ep, L8, Rp, IT, res⟩ := dv;obtain ⟨Oh, Ss, hu, BB, hQ, VA, hR, hj, zF⟩ := pt;have L9 : (4294967296 : Nat) ^ (n + 3) = 4294967296 ^ (n + 2) * 4294967296 := afM ..;intro bY hg1 YX YY;have JU := ahe R V;rw [hQ] at JU;have hml := ahd R Sr;rw [agr] at JU;rw [← hv];obtain ⟨U1, bo, r1, ⟨r2f, YZ⟩, r3⟩ := remove A U C v bY (0 + j * 1) (j + (n + 3) - j) (by omega) (by omega) (by omega) hg1 (by rw [EM, Oh, L9];have h5 := Nat.mul_lt_mul_of_pos_left BA (show 0 < 4294967296 by omega);have h6 := afw V (aiK hg1);rw [agr (4294967296 ^ (n + 2))]; omega) (by omega)
  rw [EM, ← BB] at r2f YZ;rw [Oh] at YZ;have hU1 := eQ U1;rw [r1, Oh] at hU1;obtain ⟨U2, ca, b1, b2, b3, b4⟩ := back A U1 C v (0 + j * 1) (j + (n + 3) - j) (by omega) (by omega) (by omega) (by omega);rw [EM, r1, Oh] at b3;have hU2 := eQ U2;rw [b1, r1, Oh] at hU2;have hVP : V < 4294967296 ^ (n + 3) := by have := afH (n := 4294967296) (by omega) (show n + 2 ≤ n + 3 by omega);exact aga BA this
  clear L9 BA Rp L8 res;generalize (4294967296 : Nat) ^ (n + 3) = P3 at YZ hU1 b3 hU2 hVP;refine ⟨U1, bo, U2, by omega, by rw [show xL A U C = .pure ((u : List UInt32).map aj).flatten from by rw [hu]] at r3; exact r3, fun XE => ?_, fun XE => ?_⟩
  · have r2 := r2f XE;have : bY = Q := by
      rcases Nat.lt_or_ge (Q) bY with h5 | h5
      · have h6 : bY = Q + 1 := by omega
        rw [h6, age, agV] at r2;omega
      · omega
    rw [this] at r2;exact ⟨this, by omega⟩
  · have r2 := YZ XE;obtain ⟨g1, g2⟩ := XF JU hU1 r2 YX YY;exact ⟨g1, by rw [g1]; exact Nat.succ_pos _, b1.trans (r1.trans Oh), XG b3 hU2 g2 b2, b4⟩
theorem PO{a b zb v u q U A C:Words}{v1 v2:UInt32}{s n m V N j R Q:Nat}(dv:Dv a b zb v v1 v2 s n m V N)(pt:Pt u U A C n j R Q V)(YE:j+1≤m)(zF:u.length=a.length+1)(E6:q.length=m)(hA:nat u=nat A+4294967296^j*R)
  (hinv:N=nat (q.drop (j+1))*4294967296^(j+1)*V+nat u)
  (ih:∀(u q:Words),u.length=a.length+1→q.length=m→nat (u.drop j)<V→N=nat (q.drop j)*4294967296^j*V+nat u →
   bE.ah (s:Int) zb b (a.length+1) m v1 v2 ((j:Int)-1) u q (.aF [af (words (nat a/nat b)),af (words (nat a%nat b))])) (U2:Words) (w:UInt32) (F9:U2.length=n+3) (Oe:nat U2=R%V) (hw:w.toNat=Q) :
  bE.ah (s:Int) zb b (a.length+1) m v1 v2 ((j:Int)-1) (A++(U2++C)) (q.set j w) (.aF [af (words (nat a/nat b)),af (words (nat a%nat b))]):=by
 have Sr:=dv.Sr;obtain⟨Oh,Ss,hu,BB,hQ,VA,hR,hj,_⟩:=pt;have HK:(A++(U2++C)).drop j=U2++C:=by rw[←Ss];exact List.drop_left
 have hn3:nat (U2++C)=R%V:=by rw[nP,VA,Oe];simp
 refine ih _ _ ?_ (by simpa using E6) (by rw[HK,hn3];exact ahd _ Sr) ?_
 ·have h5:u.length=(A++(U++C)).length:=by rw[←hu]
  simp only[List.length_append] at h5 ⊢;omega
 ·have h5:nat (A++(U2++C))=nat A+4294967296^j*(R%V):=by rw[nP,hn3,Ss]
  have h7:nat ((q.set j w).drop j)=Q+4294967296*nat (q.drop (j+1)):=by rw[ss (v:=w) (by rw[aib (by omega)]),List.drop_set_of_lt (by omega),hw]
  rw[h5,h7,hinv,hA];have h8:=ahe R V;rw[hQ] at h8;have e1:(4294967296:Nat)^(j+1)=4294967296^j*4294967296:=afM ..;rw[e1];generalize (4294967296:Nat)^j=P at *;generalize nat (q.drop (j+1))=X at *;generalize R%V=r at *;rw[←h8];clear h8 hj hu BB hR hinv hA h5 h7 e1;grind
theorem NH{a b zb v u q U A C:Words}{v1 v2 lo:UInt32}{s n m V N j R Q head r0:Nat}(dv:Dv a b zb v v1 v2 s n m V N)(pt:Pt u U A C n j R Q V)(kn:Kn V R (4294967296^n) v1.toNat v2.toNat head lo.toNat r0)(YE:j+1≤m)(zF:u.length=a.length+1)(E6:q.length=m)(E8:U[n]? = some lo)
  (next:∀(U2:Words) (w:UInt32),U2.length=n+3→nat U2=R%V→w.toNat=Q →
   bE.ah (s:Int) zb b (a.length+1) m v1 v2 ((j:Int)-1) (A++(U2++C)) (q.set j w) (.aF [af (words (nat a/nat b)),af (words (nat a%nat b))])) :
  ∀(k bY rest:Nat),4294967296-rest≤k→rest<18446744073709551616-4294967296→bY*v1.toNat+rest=head→Q≤bY→bY<18446744073709551616 →
   bE.a8 (s:Int) zb b (a.length+1) m v1 v2 (((j+1:Nat):Int)-1) j (j+(n+3)) bY rest u q (.aF [af (words (nat a/nat b)),af (words (nat a%nat b))]):=by
 have fin:=Su dv pt;obtain⟨hv,GY,C9,hm,Cz,EM,BA,Sr,GX,Ep,L8,Rp,IT,res⟩:=dv;obtain⟨Oh,Ss,hu,BB,hQ,VA,hR,hj,_⟩:=pt;have Vz:=jK lo;have aaz:=jK v1;have aaA:=jK v2;have zu:(zb.take b.length).length=n+2:=by rw[←hv];exact Cz
 have PR:(2:Nat)^min 32 64=4294967296:=by decide
 have qL:∀(k:Nat) (w:UInt32),U[k]? = some w→u[(0+j*1)+k]? = some w:=fun k w hk=>by rw[hu,agl,ahF,←Ss];exact iC A U C k w hk
 have PS:=kn.small;rw[hQ] at PS;have XH:∀{g r:Nat},g*v1.toNat+r=head→r*4294967296+lo.toNat<g*v2.toNat→Q<g:=fun h1 h2=>by rw[←hQ];exact kn.less h1 h2
 have PT:∀{g r:Nat},g*v1.toNat+r=head→g<4294967296→(4294967296≤r∨g*v2.toNat≤r*4294967296+lo.toNat)→g≤Q+1:=fun h1 h2 h3=>by rw[←hQ];exact kn.aav h1 h2 h3
 clear BA Rp L8 res BB hR;intro k
 induction k with
 |zero =>
  intro bY rest hk XI hg hq YX;have hr:4294967296≤rest:=by omega
  have Er:=kn.fits hg hr;obtain⟨U1,bo,U2,f1,f2,f3,f4⟩:=fin bY Er hq (PT hg Er (.inl hr));cases bo with
  |false =>obtain⟨g1,g2⟩:=f3 rfl;obtain⟨w,hw⟩:=iR bY Er;refine bE.l25 (s:Int) zb b (a.length+1) m v1 v2 _ j (j+(n+3)) bY rest u q _ false w j hr f2 rfl (by omega) (by omega) (by omega) (by omega) (by unfold ay;omega) ?_;rw[show (((j+1:Nat):Int)-1-1)=(j:Int)-1 from by omega];exact next U1 w f1 g2 (by omega)
  |true =>obtain⟨g1,g0,g2,g3,g4⟩:=f4 rfl;obtain⟨w,hw⟩:=iR (bY-1) (by omega);refine bE.l24 (s:Int) zb b (a.length+1) m v1 v2 _ j (j+(n+3)) bY rest u q _ true (bY-1) _ w j hr f2 rfl (by omega) g4 (by omega) (by omega) (by omega) (by omega) (by unfold ay;omega) ?_;rw[show (((j+1:Nat):Int)-1-1)=(j:Int)-1 from by omega];exact next U2 w g2 g3 (by omega)
 |succ k ihk =>
  intro bY rest hk XI hg hq YX;by_cases hr:4294967296≤rest
  ·have Er:=kn.fits hg hr;obtain⟨U1,bo,U2,f1,f2,f3,f4⟩:=fin bY Er hq (PT hg Er (.inl hr));cases bo with
   |false =>obtain⟨g1,g2⟩:=f3 rfl;obtain⟨w,hw⟩:=iR bY Er;refine bE.l25 (s:Int) zb b (a.length+1) m v1 v2 _ j (j+(n+3)) bY rest u q _ false w j hr f2 rfl (by omega) (by omega) (by omega) (by omega) (by unfold ay;omega) ?_;rw[show (((j+1:Nat):Int)-1-1)=(j:Int)-1 from by omega];exact next U1 w f1 g2 (by omega)
   |true =>obtain⟨g1,g0,g2,g3,g4⟩:=f4 rfl;obtain⟨w,hw⟩:=iR (bY-1) (by omega);refine bE.l24 (s:Int) zb b (a.length+1) m v1 v2 _ j (j+(n+3)) bY rest u q _ true (bY-1) _ w j hr f2 rfl (by omega) g4 (by omega) (by omega) (by omega) (by omega) (by unfold ay;omega) ?_;rw[show (((j+1:Nat):Int)-1-1)=(j:Int)-1 from by omega];exact next U2 w g2 g3 (by omega)
  have YJ:=PS;have step:∀(VB:Q<bY),(bY-1)*v1.toNat+(rest+v1.toNat)=head:=by
   intro VB;have:bY=(bY-1)+1:=by omega
   rw[this,age,agV] at hg;omega
  by_cases YY:4294967296≤bY
  ·refine bE.uF (s:Int) zb b (a.length+1) m v1 v2 _ j (j+(n+3)) bY rest u q (bY-1) (rest+v1.toNat) (by omega) YY (by omega) (by omega) ?_;exact ihk (bY-1) (rest+v1.toNat) (by omega) (by omega) (step (by omega)) (by omega) (by omega)
  ·have OY:bY*v2.toNat<18446744073709551616:=by have:=yB (show bY<4294967296 by omega) aaA;omega
   have IS:rest*2^min 32 64%18446744073709551616%18446744073709551616 ||| lo.toNat%18446744073709551616=rest*4294967296+lo.toNat:=by rw[PR,aiU];exact GV (by omega) Vz
   by_cases hc:rest*4294967296+lo.toNat<bY*v2.toNat
   ·have VB:=XH hg hc;refine bE.xe (s:Int) zb b (a.length+1) m v1 v2 _ j (j+(n+3)) bY rest u q (bY*v2.toNat) _ n lo (rest*4294967296+lo.toNat) (bY-1) (rest+v1.toNat) (by omega) (by omega) (ag1 OY) rfl (by rw[zu];unfold ay;omega) (by rw[zu];omega) (by omega) (qL n lo E8) IS hc (by omega) (by omega) ?_;exact ihk (bY-1) (rest+v1.toNat) (by omega) (by omega) (step VB) (by omega) (by omega)
   ·obtain⟨U1,bo,U2,f1,f2,f3,f4⟩:=fin bY (by omega) hq (PT hg (by omega) (.inr (by omega)));cases bo with
    |false =>obtain⟨g1,g2⟩:=f3 rfl;obtain⟨w,hw⟩:=iR bY (by omega);refine bE.l23 (s:Int) zb b (a.length+1) m v1 v2 _ j (j+(n+3)) bY rest u q (bY*v2.toNat) _ n lo (rest*4294967296+lo.toNat) _ false w j (by omega) (by omega) (ag1 OY) rfl (by rw[zu];unfold ay;omega) (by rw[zu];omega) (by omega) (qL n lo E8) IS (by omega) f2 rfl (by omega) (by omega) (by omega) (by omega) (by unfold ay;omega) ?_;rw[show (((j+1:Nat):Int)-1-1)=(j:Int)-1 from by omega];exact next U1 w f1 g2 (by omega)
    |true =>obtain⟨g1,g0,g2,g3,g4⟩:=f4 rfl;obtain⟨w,hw⟩:=iR (bY-1) (by omega);refine bE.Py (s:Int) zb b (a.length+1) m v1 v2 _ j (j+(n+3)) bY rest u q (bY*v2.toNat) _ n lo (rest*4294967296+lo.toNat) _ true (bY-1) _ w j (by omega) (by omega) (ag1 OY) rfl (by rw[zu];unfold ay;omega) (by rw[zu];omega) (by omega) (qL n lo E8) IS (by omega) f2 rfl (by omega) g4 (by omega) (by omega) (by omega) (by omega) (by unfold ay;omega) ?_;rw[show (((j+1:Nat):Int)-1-1)=(j:Int)-1 from by omega];exact next U2 w g2 g3 (by omega)
set_option maxHeartbeats 1000000 in
theorem PU{a b zb v u q:Words}{v1 v2:UInt32}{s n m V N j:Nat}(dv:Dv a b zb v v1 v2 s n m V N)(hj:j+1≤m)(zF:u.length=a.length+1)(E6:q.length=m)(yC:nat (u.drop (j+1))<V)(hinv:N=nat (q.drop (j+1))*4294967296^(j+1)*V+nat u)
  (ih:∀(u q:Words),u.length=a.length+1→q.length=m→nat (u.drop j)<V→N=nat (q.drop j)*4294967296^j*V+nat u →
   bE.ah (s:Int) zb b (a.length+1) m v1 v2 ((j:Int)-1) u q (.aF [af (words (nat a/nat b)),af (words (nat a%nat b))])) :
  bE.ah (s:Int) zb b (a.length+1) m v1 v2 (((j+1:Nat):Int)-1) u q (.aF [af (words (nat a/nat b)),af (words (nat a%nat b))]):=by
 have GY:=dv.GY;have C9:=dv.C9;have hm:=dv.hm;have Cz:=dv.Cz;have BA:=dv.BA;have L8:=dv.L8;have Rp:=dv.Rp;have IT:=dv.IT;have hv:=dv.hv;obtain⟨U,hU⟩:∃U,U=(u.drop j).take (n+3):=⟨_,rfl⟩;obtain⟨A,hA⟩:∃A,A=u.take j:=⟨_,rfl⟩;obtain⟨C,hC⟩:∃C,C=u.drop (j+(n+3)):=⟨_,rfl⟩;have Oh:U.length=n+3:=by rw[hU];simp;omega
 have Ss:A.length=j:=by rw[hA];simp;omega
 have hu:u=A++(U++C):=by rw[hA,hU,hC,show j+(n+3)=j+(n+3) from rfl,←aj6,ahB,ahB]
 obtain⟨R,hR⟩:∃R,R=nat (u.drop j):=⟨_,rfl⟩;obtain⟨x,hx⟩:∃x,u[j]? = some x:=⟨_,afp (by omega)⟩;have XJ:R<V*4294967296:=by rw[hR,ss hx];have h2:=jK x;omega
 have BB:=Sp u j (n+3) (by omega);rw[←hU,←hC,←hR] at BB;have L9:(4294967296:Nat)^(n+3)=4294967296^(n+2)*4294967296:=afM ..;have VA:nat C=0:=by
  refine agJ fun hp => ?_
  have h2:=afO (4294967296^(n+3)) hp;omega
 rw[VA,aji,aha] at BB;obtain⟨hi,hhi⟩:∃x,U[n+2]? = some x:=⟨_,afp (by omega)⟩;obtain⟨mi,hmi⟩:∃x,U[n+1]? = some x:=⟨_,afp (by omega)⟩;obtain⟨lo,E8⟩:∃x,U[n]? = some x:=⟨_,afp (by omega)⟩;have h3:=PM U n Oh E8 hmi hhi;have hUt:=eQ (U.take n);rw[afK,agx (by omega)] at hUt;obtain⟨head,TG⟩:∃h,h=hi.toNat*4294967296+mi.toNat:=⟨_,rfl⟩;rw[←TG,←BB] at h3;have kn:Kn V R (4294967296^n) v1.toNat v2.toNat head lo.toNat (nat (U.take n)) :=
  ⟨by rw[L8];omega,by rw[L8,age _ 1,agV];omega,h3,hUt,jK lo,jK v2,IT,XJ⟩
 obtain⟨Q,hQ⟩:∃Q,R/V=Q:=⟨_,rfl⟩;have PW:=kn.start;rw[hQ] at PW;have pt:Pt u U A C n j R Q V:=⟨Oh,Ss,hu,BB,hQ,VA,hR,by omega,by omega⟩;have hAu:nat u=nat A+4294967296^j*R:=by have:=kJ u j (by omega);rw[←hA,←hR] at this;exact this
 have aaC:=jK hi;have aaD:=jK mi;have Vz:=jK lo;have aaz:=jK v1;have zu:(zb.take b.length).length=n+2:=by rw[←hv];exact Cz
 have PR:(2:Nat)^min 32 64=4294967296:=by decide
 have qL:∀(k:Nat) (w:UInt32),U[k]? = some w→u[(0+j*1)+k]? = some w:=fun k w hk=>by rw[hu,agl,ahF,←Ss];exact iC A U C k w hk
 have inner:=NH dv pt kn hj zF E6 E8 (PO dv pt hj zF E6 hAu hinv ih);clear BA Rp L8 BB L9 h3 hUt XJ yC hinv hAu ih;have hhl:head<18446744073709551616:=by omega
 have hdl:head/v1.toNat≤head:=agP _ _;have hml:=ahd head IT;have hz:(hi.toNat*2^min 32 64)%18446744073709551616%18446744073709551616 ||| mi.toNat%18446744073709551616=head:=by rw[PR,aiU,TG];exact GV aaC aaD
 refine bE.l10 (s:Int) zb b (a.length+1) m v1 v2 _ u q j (j+(n+3)) hi _ (n+1) mi head (head/v1.toNat) (head%v1.toNat) (by omega) (by rw[zu];unfold ay;omega) (by rw[zu];unfold ay;omega) (by omega) (by rw[zu];omega) (by omega) (by omega) (by omega) (by rw[zu];omega)
  (by rw[zu];exact qL (n+2) hi hhi) rfl (by rw[zu];unfold ay;omega) (by rw[zu];omega) (by omega) (qL (n+1) mi hmi) hz (by omega) (by rw[ag1 (by omega)]) rfl ?_
 refine inner 4294967296 _ _ (by omega) (by omega) ?_ PW (by omega);have:=ahe head v1.toNat;rw[agr] at this;exact this
set_option maxHeartbeats 1000000 in
theorem mW(a b:Words)(ha:cn a=true)(hb:cn b=true)(fT:b≠[])(C9:a.length≤2199023255551)(Fv:b.length≤2199023255552) :
  Cp 173 [af a,af b] (.aF [af (words (nat a/nat b)),af (words (nat a%nat b))]):=by
 have TH:0<nat b:=rW hb fT;have yD:=compare a b ha hb (by omega);by_cases dI:nat a<nat b
 ·rw[rA (by omega)] at yD;rw[ahG dI,ag1 dI];exact bE.e0 a b (-1) _ yD (by omega) (trim a (by omega))
 have VC:0≤ef (nat a) (nat b):=by unfold ef;split<;>(try split)<;>omega
 by_cases h1:b.length=1
 ·obtain⟨v,rfl⟩:∃v,b=[v]:=List.length_eq_one_iff.1 h1;have hn:nat [v]=v.toNat:=by simp[nat]
  rw[hn] at TH VC yD ⊢;have hs:=short a v (by omega) (by omega);have ht:=trim [UInt32.ofNat (nat a%v.toNat)] (by simp);have Oe:nat [UInt32.ofNat (nat a%v.toNat)]=nat a%v.toNat:=by have:=ahd (nat a) TH;have:=jK v;simp only[nat,vv];omega
  rw[Oe] at ht;exact bE.e1 a [v] _ v _ _ _ yD VC rfl rfl hs ht
 obtain⟨n,hn⟩:∃n,b.length=n+2:=⟨b.length-2,by have:=afC.2 fT;omega⟩;obtain⟨bt,hbt⟩:∃v,b[n+1]? = some v:=⟨_,afp (by omega)⟩;have aaF:bt.toNat≠0:=(nY (by rw[hn];exact hbt)).1 hb;have PX:=tq (n:=bt.toNat) (k:=32) (jK bt);obtain⟨kb,hkb,ae5,ae6⟩:=vy aaF;obtain⟨s,hs⟩:∃s,s=32-blen bt.toNat:=⟨_,rfl⟩;have GY:s<32:=by omega
 obtain⟨zb,ae7,aaG,aaH,_⟩:=up b s Fv GY;obtain⟨za,aaI,XK,_,aaJ⟩:=up a s (by omega) GY;have hP:=agm s;have XL:nat b<4294967296^(n+1)*2^(kb+1):=by have h2:=bR hbt;rw[aV (by omega)] at h2;have h3:=eQ (b.take (n+1));rw[afK,agx (by omega)] at h3;have h4:=afO (4294967296^(n+1)) (show bt.toNat+1≤2^(kb+1) by omega);rw[afU] at h4;omega
 have BA:nat b*2^s<4294967296^(n+2):=by
  have h2:=aii XL hP;have h3:2^(kb+1)*2^s=4294967296:=by rw[←ahq,show kb+1+s=32 from by omega]
  rw[afZ,h3,←afM] at h2;exact h2
 obtain⟨v,hv⟩:∃v,v=zb.take b.length:=⟨_,rfl⟩;have Cz:v.length=n+2:=by rw[hv];simp;omega
 have EM:nat v=nat b*2^s:=by
  rw[←aaG,hv];have h2:=kJ zb b.length (by omega);have h3:nat (zb.drop b.length)=0:=by
   refine agJ fun hp => ?_
   have:=afO (4294967296^b.length) hp;rw[hn] at this h2;omega
  rw[h3] at h2;omega
 obtain⟨V,hV⟩:∃V,V=nat b*2^s:=⟨_,rfl⟩;rw[←hV] at EM BA;have aaK:4294967296^(n+1)≤nat b:=by have:=IQ hb fT;rwa[hn] at this
 have aaL:4294967296^(n+1)≤V:=by have:=afO (nat b) hP;omega
 have Sr:0<V:=aga (aiG (by omega)) aaL;obtain⟨v1,GX⟩:∃x,v[n+1]? = some x:=⟨_,afp (by omega)⟩;obtain⟨v2,Ep⟩:∃x,v[n]? = some x:=⟨_,afp (by omega)⟩;have L8:=PN v n Cz Ep GX;rw[EM] at L8;have Rp:=eQ (v.take n);rw[afK,agx (by omega)] at Rp;have IT:0<v1.toNat:=by
  refine aj2 fun h0 => ?_
  rw[h0] at L8;have h2:=jK v2;have h3:(v2.toNat+1)*4294967296^n≤4294967296*4294967296^n:=afw _ h2;have h4:(4294967296:Nat)^(n+1)=4294967296*4294967296^n:=by rw[afM,agr]
  rw[age] at h3;simp at L8;omega
 have Tl:b.length≤a.length:=by
  refine aiM fun h => ?_
  have h2:=eQ a;have h3:=mV (show a.length≤n+1 by omega);omega
 obtain⟨m,hm⟩:∃m,a.length+1=m+(n+2):=⟨a.length+1-(n+2),by omega⟩;obtain⟨N,hN⟩:∃N,N=nat a*2^s:=⟨_,rfl⟩;rw[←hN] at XK;have res:∀q r:Nat,N=q*V+r→r<V→nat a/nat b=q∧r/2^s=nat a%nat b:=by
  intro q r h2 h3;have h4:N/V=nat a/nat b:=by rw[hN,hV];exact Nat.mul_div_mul_right _ _ hP
  have h5:N%V=nat a%nat b*2^s:=by rw[hN,hV];exact Nat.mul_mod_mul_right _ _ _
  have h6:N/V=q:=by rw[h2,agr,aiT Sr,ahG h3,aha]
  have h7:N%V=r:=by rw[h2,agr,ajh,ag1 h3]
  refine⟨by rw[←h4,h6],?_⟩;rw[←h7,h5,Nat.mul_div_cancel _ hP]
 have dv:Dv a b zb v v1 v2 s n m V N:=⟨hv,GY,C9,hm,Cz,EM,BA,Sr,GX,Ep,L8,Rp,IT,res⟩;have loop:∀(jj:Nat) (u q:Words),jj≤m→u.length=a.length+1→q.length=m→nat (u.drop jj)<V→N=nat (q.drop jj)*4294967296^jj*V+nat u →
   bE.ah (s:Int) zb b (a.length+1) m v1 v2 ((jj:Int)-1) u q (.aF [af (words (nat a/nat b)),af (words (nat a%nat b))]):=by
  intro jj
  induction jj with
  |zero =>intro u q _ zF E6 yC hinv;simp only[List.drop_zero,Nat.pow_zero,Nat.mul_one] at hinv yC;obtain⟨e1,e2⟩:=res _ _ hinv yC;rw[e1,←e2];exact bE.cB (s:Int) zb b (a.length+1) m v1 v2 _ u q _ _ (by omega) E6.symm zF.symm (trim q (by omega)) (down u s (by omega) GY)
  |succ j ih =>intro u q hj zF E6 yC hinv;exact PU dv hj zF E6 yC hinv (fun u q=>ih u q (by omega))
 have zu:(zb.take b.length).length=n+2:=by rw[←hv];exact Cz
 refine bE.e2 a b _ (n+1) bt (s:Int) zb za (a.length+1) m (n+1) v1 n v2 yD VC h1 (by unfold ay;omega) (by omega) hbt (by rw[hs];exact TC.DG bt) aaH (by omega) aaJ (by rw[zu];unfold ay;omega) (by rw[zu];omega) (by omega) (by rw[zu];unfold ay;omega) (by rw[zu];omega) (by rw[←hv];exact GX) (by rw[zu];unfold ay;omega) (by rw[zu];omega) (by rw[←hv];exact Ep) (by unfold ay;omega) ?_;refine loop m za _ (afy _) aaI (by simp) ?_ ?_
 ·
  have h2:=kJ za m (by omega);refine ahP fun h => ?_
  have h3:=afO (4294967296^m) h;have h4:4294967296^m*V≤N:=by omega
  have h5:nat a*2^s<4294967296^a.length*2^s:=aii (eQ a) hP;have h6:4294967296^m*V=4294967296^m*nat b*2^s:=by rw[hV,afZ]
  have h7:4294967296^a.length≤4294967296^m*nat b:=by have:=afO (4294967296^m) aaK;rw[←ahq,show m+(n+1)=a.length from by omega] at this;exact this
  have h8:=afw (2^s) h7;omega
 ·rw[afV (by simp),XK];simp[nat]
end cV
end Go.Proofs.YtcpnocgollpbhaaGreatDoor.Sym
namespace Go.Proofs.YtcpnocgollpbhaaGreatDoor.Sym
open Go Path
set_option linter.unusedVariables false
abbrev wl(i:Int):Nat:=(words i.natAbs).length
theorem nR(i:Int):(whole i).cJ.length=wl i:=rfl
theorem gn(i:Int):wl (-i)=wl i:=by unfold wl;rw[aia]
theorem lE{i:Int}{k:Nat}(h:i.natAbs<4294967296^k):wl i≤k:=fz h
theorem IU(i:Int):i.natAbs<4294967296^wl i:=kK _
theorem Ad(i j:Int):wl (i+j)≤max (wl i) (wl j)+1:=by refine lE ?_;have h1:=IU i;have h2:=IU j;have h3:=mV (ahD (wl i) (wl j));have h4:=mV (ahj (wl i) (wl j));have h5:=Int.natAbs_add_le i j;rw[afM];omega
theorem dZ(i j:Int):wl (i*j)≤wl i+wl j:=by refine lE ?_;rw[agw,ahq];exact Nat.mul_lt_mul'' (IU i) (IU j)
theorem bk(a:az):wl a.val≤a.cJ.length:=by unfold wl;rw[cV.GU];cases a.valid<;>simp
namespace cV
def qC(i:Int):Int:=ef i 0
theorem Ma{i:Int}(h:i<0):qC i = -1:=rA h
theorem Mb{i:Int}(h:0<i):qC i=1:=pd h
theorem IV:qC 0=0:=rfl
theorem Sign(a:az)(h:Fit a.cJ):Cp 103 [a.pv] (vI (qC a.val)):=by
 have hm:=cJ a h;by_cases h0:a.val=0
 ·rw[h0,IV];exact o7.e0 a _ hm (by rw[h0];rfl)
 ·have hl:(words a.val.natAbs).length≠0:=by rw[Ne,dO];omega
  have hv:a.valid=true:=by
   cases hv:a.valid with
   |true=>rfl
   |false=>exact absurd (by unfold az.val;rw[hv];rfl) h0
  by_cases hn:a.val<0
  ·rw[Ma hn];have:=BW a;rw[hv,ag6 hn] at this;exact o7.e1 a _ hm hl (by simpa using this.symm)
  ·rw[Mb (by omega)];have:=BW a;rw[hv,ag5 hn] at this;exact o7.e2 a _ hm hl (by simpa using this.symm)
theorem yE(a b:az)(ha:Fit a.cJ)(hb:Fit b.cJ):Cp 53 [a.pv,b.pv] (vI (ef a.val b.val)):=by
 have h1:=Sign a ha;have h2:=Sign b hb;have h3:=cJ a ha;have h4:=cJ b hb;have h5:=neg a ha;have la:=bk a;by_cases he:qC a.val=qC b.val
 ·have hc:=compare (words a.val.natAbs) (words b.val.natAbs) (iS _) (iS _) (by have:(words a.val.natAbs).length≤a.cJ.length:=la;omega);rw[aH,aH] at hc;unfold qC ef at he;by_cases hn:a.val<0
  ·have Ti:b.val<0:=by
    rw[afI hn] at he;split at he
    ·assumption
    ·split at he<;>omega
   have e:ef a.val b.val = -(ef (a.val.natAbs:Int) (b.val.natAbs:Int)):=by unfold ef;split<;>split<;>(try split)<;>(try split)<;>omega
   rw[e];refine oc.e2 a b _ _ _ _ _ _ h1 h2 (by unfold qC ef;exact he) h3 h4 hc h5 (ag6 hn) ?_;unfold ay ef;split<;>(try split)<;>omega
  ·have Ti:¬b.val<0:=by
    intro fG;rw[afG hn,afI fG] at he;split at he<;>omega
   have e:ef a.val b.val=ef (a.val.natAbs:Int) (b.val.natAbs:Int):=by unfold ef;split<;>split<;>(try split)<;>(try split)<;>omega
   rw[e];exact oc.e3 a b _ _ _ _ _ _ h1 h2 (by unfold qC ef;exact he) h3 h4 hc h5 (ag5 hn)
 ·by_cases dI:qC a.val<qC b.val
  ·rw[rA (by
    unfold qC ef at dI;split at dI<;>split at dI<;>(try split at dI)<;>(try split at dI)<;>omega)]
   exact oc.e0 a b _ _ h1 h2 he dI
  ·rw[pd (by
    unfold qC ef at dI he;split at dI<;>split at dI<;>(try split at dI)<;>(try split at dI)<;>(simp_all;try omega))]
   exact oc.e1 a b _ _ h1 h2 he (by omega)
theorem Neg(a:az)(h:Fit a.cJ):Cp 109 [a.pv] (Sym.whole (-a.val)).pv:=by
 have h3:=cJ a h;have h5:=neg a h;have la:=bk a;have hw:=whole (!decide (a.val<0)) (words a.val.natAbs) (by have:(words a.val.natAbs).length≤a.cJ.length:=la;omega);have e:(bif !decide (a.val<0) then -(nat (words a.val.natAbs):Int) else (nat (words a.val.natAbs):Int)) = -a.val:=by
  rw[aH];by_cases h:a.val<0
  ·simp[h];omega
  ·simp[h];omega
 rw[e] at hw;exact AZ.e0 a _ _ _ h5 h3 hw
theorem Add(a b:az)(ha:Fit a.cJ)(hb:Fit b.cJ):Cp 74 [a.pv,b.pv] (Sym.whole (a.val+b.val)).pv:=by
 have h1:=cJ a ha;have h2:=cJ b hb;have h3:=neg a ha;have h4:=neg b hb;have la:(words a.val.natAbs).length≤a.cJ.length:=bk a;have lb:(words b.val.natAbs).length≤b.cJ.length:=bk b;by_cases hs:decide (a.val<0)=decide (b.val<0)
 ·have hp:=plus (words a.val.natAbs) (words b.val.natAbs) (by omega) (by omega);rw[aH,aH] at hp;have hl:=fz (n:=a.val.natAbs+b.val.natAbs) (k:=max (words a.val.natAbs).length (words b.val.natAbs).length+1) (by
   have g1:=kK a.val.natAbs;have g2:=kK b.val.natAbs;have g3:=mV (ahD (words a.val.natAbs).length (words b.val.natAbs).length);have g4:=mV (ahj (words a.val.natAbs).length (words b.val.natAbs).length);rw[afM];omega)
  have hw:=whole (decide (a.val<0)) (words (a.val.natAbs+b.val.natAbs)) (by omega);rw[aH] at hw;have e:(bif decide (a.val<0) then -((a.val.natAbs+b.val.natAbs:Nat):Int) else ((a.val.natAbs+b.val.natAbs:Nat):Int))=a.val+b.val:=by
   by_cases h:a.val<0
   ·have:b.val<0:=by simpa[h] using hs.symm
    simp[h];omega
   ·have:¬b.val<0:=by simpa[h] using hs.symm
    simp[h];omega
  rw[e] at hw;exact qU.e0 a b _ _ _ _ _ _ _ h1 h2 h3 h4 hs h3 hp hw
 ·have hc:=compare (words a.val.natAbs) (words b.val.natAbs) (iS _) (iS _) (by omega);rw[aH,aH] at hc;by_cases EC:b.val.natAbs≤a.val.natAbs
  ·have hl:=less (words a.val.natAbs) (words b.val.natAbs) (by omega) (by rw[aH,aH];exact EC);rw[aH,aH] at hl;have hlen:=eu (show a.val.natAbs-b.val.natAbs≤a.val.natAbs by omega);have hw:=whole (decide (a.val<0)) (words (a.val.natAbs-b.val.natAbs)) (by omega);rw[aH] at hw;have e:(bif decide (a.val<0) then -((a.val.natAbs-b.val.natAbs:Nat):Int) else ((a.val.natAbs-b.val.natAbs:Nat):Int))=a.val+b.val:=by
    by_cases h:a.val<0
    ·have:¬b.val<0:=by simpa[h] using hs
     simp[h];omega
    ·have:b.val<0:=by simpa[h] using hs
     simp[h];omega
   rw[e] at hw;exact qU.e1 a b _ _ _ _ _ _ _ _ h1 h2 h3 h4 hs hc (by unfold ef;split<;>(try split)<;>omega) h3 hl hw
  ·have hl:=less (words b.val.natAbs) (words a.val.natAbs) (by omega) (by rw[aH,aH];omega);rw[aH,aH] at hl;have hlen:=eu (show b.val.natAbs-a.val.natAbs≤b.val.natAbs by omega);have hw:=whole (decide (b.val<0)) (words (b.val.natAbs-a.val.natAbs)) (by omega);rw[aH] at hw;have e:(bif decide (b.val<0) then -((b.val.natAbs-a.val.natAbs:Nat):Int) else ((b.val.natAbs-a.val.natAbs:Nat):Int))=a.val+b.val:=by
    by_cases h:b.val<0
    ·have:¬a.val<0:=by intro h';simp[h,h'] at hs
     simp[h];omega
    ·have:a.val<0:=by
      refine afE fun h' => ?_
      simp[h,h'] at hs
     simp[h];omega
   rw[e] at hw;exact qU.e2 a b _ _ _ _ _ _ _ _ h1 h2 h3 h4 hs hc (by unfold ef;split<;>(try split)<;>omega) h4 hl hw
theorem Sub(a b:az)(ha:Fit a.cJ)(hb:Fit b.cJ):Cp 137 [a.pv,b.pv] (Sym.whole (a.val-b.val)).pv:=by
 have h1:=Neg b hb;have h2:=Add a (Sym.whole (-b.val)) ha (by have:=bk b;show(words (-b.val).natAbs).length≤_;rw[aia];have:(words b.val.natAbs).length≤b.cJ.length:=this;omega)
 rw[aE,←aj3] at h2;exact A4.e0 a b _ _ h1 h2
theorem Mul(a b:az)(ha:Fit a.cJ)(hb:Fit b.cJ):Cp 54 [a.pv,b.pv] (Sym.whole (a.val*b.val)).pv:=by
 have h1:=cJ a ha;have h2:=cJ b hb;have h3:=neg a ha;have h4:=neg b hb;have la:(words a.val.natAbs).length≤a.cJ.length:=bk a;have lb:(words b.val.natAbs).length≤b.cJ.length:=bk b;have ht:=times (words a.val.natAbs) (words b.val.natAbs) (by omega) (by omega);rw[aH,aH] at ht;have hl:(words (a.val.natAbs*b.val.natAbs)).length≤(words a.val.natAbs).length+(words b.val.natAbs).length:=by have:=dZ a.val b.val;unfold wl at this;rw[agw] at this;exact this
 have hw:=whole (!(decide (a.val<0)==decide (b.val<0))) (words (a.val.natAbs*b.val.natAbs)) (by omega);rw[aH] at hw;have e:(bif !(decide (a.val<0)==decide (b.val<0)) then -((a.val.natAbs*b.val.natAbs:Nat):Int) else ((a.val.natAbs*b.val.natAbs:Nat):Int))=a.val*b.val:=by
  by_cases h:a.val<0<;>by_cases h':b.val<0<;>simp only[h,h',decide_true,decide_false,beq_self_eq_true,Bool.not_true,cond_false,Bool.not_false,cond_true,show(true==false)=false from rfl,show(false==true)=false from rfl]
  ·rw[←agw,ahX (aix (by omega) (by omega))]
  ·rw[←agw,ahO (aiy (by omega) (by omega))];omega
  ·rw[←agw,ahO (aiz (by omega) (by omega))];omega
  ·rw[←agw,ahX (Int.mul_nonneg (by omega) (by omega))]
 rw[e] at hw;exact AY.e0 a b _ _ _ _ _ _ h3 h4 h1 h2 ht hw
theorem Of(n:Int)(h:ay n):Cp 56 [vI n] (Sym.whole n).pv:=by
 obtain⟨g1,g2⟩:=h;have PR:(2:Nat)^min 32 64=4294967296:=by decide
 have key:∀m:Nat,m=n.natAbs→∃w w1:UInt32,m%4294967296=w.toNat∧m/4294967296%4294967296=w1.toNat∧Cp 107 [(vB (decide (n<0))),(af [w,w1])] (Sym.whole n).pv:=by
  intro m hm;obtain⟨w,hw⟩:=iR (m%4294967296) (by omega);obtain⟨w1,LI⟩:=iR (m/4294967296%4294967296) (by omega);refine⟨w,w1,hw.symm,LI.symm,?_⟩;have:=whole (decide (n<0)) [w,w1] (by simp);have e:nat [w,w1]=m:=by simp only[nat,hw,LI];omega
  rw[e,hm] at this;have e2:(bif decide (n<0) then -(n.natAbs:Int) else (n.natAbs:Int))=n:=by
   by_cases h:n<0
   ·simp[h];omega
   ·simp[h];omega
  rw[e2] at this;exact this
 by_cases hn:n<0
 ·obtain⟨w,w1,q1,q2,q3⟩:=key n.natAbs rfl;exact xd.e0 n (n%18446744073709551616).toNat n.natAbs w _ w1 _ (by omega) hn (by omega) q1 (by rw[PR]) q2 q3
 ·obtain⟨w,w1,q1,q2,q3⟩:=key n.natAbs rfl;exact xd.e1 n n.natAbs w _ w1 _ (by omega) (by omega) q1 (by rw[PR]) q2 q3
theorem Div(a b:az)(ha:Fit a.cJ)(hb:Fit b.cJ)(h0:b.val≠0) :
  Cp 111 [a.pv,b.pv] (.aF [(Sym.whole (a.val/b.val)).pv,(Sym.whole (a.val%b.val)).pv,.aC]):=by
 have h1:=cJ a ha;have h2:=cJ b hb;have h3:=neg a ha;have h4:=neg b hb;have la:(words a.val.natAbs).length≤a.cJ.length:=bk a;have lb:(words b.val.natAbs).length≤b.cJ.length:=bk b;have L7:(words b.val.natAbs).length≠0:=by rw[Ne,dO];omega
 have TH:0<b.val.natAbs:=by omega
 have hd:=mW (words a.val.natAbs) (words b.val.natAbs) (iS _) (iS _) (by intro e;rw[e] at L7;simp at L7) (by omega) (by omega);rw[aH,aH] at hd;have hq:=eu (agP a.val.natAbs b.val.natAbs);have hr:=eu (aiK (ahd a.val.natAbs TH));have JU:=ahe a.val.natAbs b.val.natAbs;have hml:=ahd a.val.natAbs TH;generalize hQ:a.val.natAbs/b.val.natAbs=q at *;generalize hR:a.val.natAbs%b.val.natAbs=r at *;have sb:b.val=if b.val<0 then -(b.val.natAbs:Int) else (b.val.natAbs:Int):=by split<;>omega
 have uniq:∀x y:Int,a.val=b.val*x+y→0≤y→y<b.val.natAbs→a.val/b.val=x∧a.val%b.val=y:=by
  intro x y e1 e2 e3;rcases Int.lt_or_gt_of_ne h0 with fG|fG
  ·exact(Int.ediv_emod_unique' fG).2 ⟨by omega,e2,by omega⟩
  ·exact(Int.ediv_emod_unique fG).2 ⟨by omega,e2,by omega⟩
 by_cases hn:a.val<0
 ·by_cases E2:r=0
  ·have hw:=whole (!(decide (a.val<0)==decide (b.val<0))) (words q) (by omega);have Eo:=whole false (words r) (by omega);rw[aH] at hw Eo;subst E2;have e:a.val/b.val=(bif !(decide (a.val<0)==decide (b.val<0)) then -(q:Int) else (q:Int))∧a.val%b.val=0:=by
    refine uniq _ 0 ?_ (by omega) (by omega);have vo:(a.val.natAbs:Int)=(b.val.natAbs:Int)*q:=by rw[←JU];simp
    by_cases h':b.val<0
    ·simp only[hn,h',decide_true,beq_self_eq_true,Bool.not_true,cond_false];have:(b.val.natAbs:Int) = -b.val:=by omega
     rw[this] at vo;have:(a.val.natAbs:Int) = -a.val:=by omega
     rw[this,aiV] at vo;omega
    ·simp only[hn,h',decide_true,decide_false,show(true==false)=false from rfl,Bool.not_false,cond_true];have:(b.val.natAbs:Int)=b.val:=by omega
     rw[this] at vo;have:(a.val.natAbs:Int) = -a.val:=by omega
     rw[this] at vo;rw[aiW];omega
   rw[e.1,e.2];exact qV.e2 a b _ _ _ _ _ _ _ _ _ h2 L7 h1 hd h3 (ag6 hn) (by rw[fW];simp) h3 h4 hw Eo
  ·have hp:=plus (words q) [1] (by omega) (by simp);have hl:=less (words b.val.natAbs) (words r) (by omega) (by rw[aH,aH];omega);rw[aH] at hp;rw[aH,aH] at hl;have e1:nat [1]=1:=rfl;rw[e1] at hp;have HF:=fz (n:=q+1) (k:=(words q).length+1) (by have:=kK q;rw[afM];omega);have F9:=eu (show b.val.natAbs-r≤b.val.natAbs by omega);have hw:=whole (!(decide (a.val<0)==decide (b.val<0))) (words (q+1)) (by omega);have Eo:=whole false (words (b.val.natAbs-r)) (by omega);rw[aH] at hw Eo;have e:a.val/b.val=(bif !(decide (a.val<0)==decide (b.val<0)) then -((q+1:Nat):Int) else ((q+1:Nat):Int))∧a.val%b.val=((b.val.natAbs-r:Nat):Int):=by
    refine uniq _ _ ?_ (by omega) (by omega);have vo:(a.val.natAbs:Int)=(b.val.natAbs:Int)*q+r:=by rw[←JU];simp
    by_cases h':b.val<0
    ·simp only[hn,h',decide_true,beq_self_eq_true,Bool.not_true,cond_false];have e5:(b.val.natAbs:Int) = -b.val:=by omega
     rw[e5] at vo;have:(a.val.natAbs:Int) = -a.val:=by omega
     rw[this,aiV] at vo;rw[show ((q+1:Nat):Int)=(q:Int)+1 from by omega,ajp];omega
    ·simp only[hn,h',decide_true,decide_false,show(true==false)=false from rfl,Bool.not_false,cond_true];have:(b.val.natAbs:Int)=b.val:=by omega
     rw[this] at vo;have:(a.val.natAbs:Int) = -a.val:=by omega
     rw[this] at vo;rw[show ((q+1:Nat):Int)=(q:Int)+1 from by omega,aiW,ajp];omega
   rw[e.1,e.2];exact qV.e1 a b _ _ _ _ _ _ _ _ _ _ _ h2 L7 h1 hd h3 (ag6 hn) (by have:=(dO (n:=r)).1;omega) hp hl h3 h4 hw Eo
 ·have hw:=whole (!(decide (a.val<0)==decide (b.val<0))) (words q) (by omega);have Eo:=whole false (words r) (by omega);rw[aH] at hw Eo;have e:a.val/b.val=(bif !(decide (a.val<0)==decide (b.val<0)) then -(q:Int) else (q:Int))∧a.val%b.val=(r:Int):=by
   refine uniq _ _ ?_ (by omega) (by omega);have vo:(a.val.natAbs:Int)=(b.val.natAbs:Int)*q+r:=by rw[←JU];simp
   by_cases h':b.val<0
   ·simp only[hn,h',decide_true,decide_false,show(false==true)=false from rfl,Bool.not_false,cond_true];have e5:(b.val.natAbs:Int) = -b.val:=by omega
    rw[e5] at vo;have:(a.val.natAbs:Int)=a.val:=by omega
    rw[this,aiV] at vo;rw[aiW];omega
   ·simp only[hn,h',decide_false,beq_self_eq_true,Bool.not_true,cond_false];have:(b.val.natAbs:Int)=b.val:=by omega
    rw[this] at vo;have:(a.val.natAbs:Int)=a.val:=by omega
    rw[this] at vo;omega
  rw[e.1,e.2];exact qV.e3 a b _ _ _ _ _ _ _ _ _ h2 L7 h1 hd h3 (ag5 hn) h3 h4 hw Eo
theorem Gcd(a b:az)(ha:Fit a.cJ)(hb:Fit b.cJ):Cp 110 [a.pv,b.pv] (Sym.whole (Nat.gcd a.val.natAbs b.val.natAbs)).pv:=by
 have h1:=cJ a ha;have h2:=cJ b hb;have la:(words a.val.natAbs).length≤a.cJ.length:=bk a;have lb:(words b.val.natAbs).length≤b.cJ.length:=bk b;have loop:∀(k x y:Nat),y≤k→(words x).length≤1099511627776→(words y).length≤1099511627776→l9.ah (words x) (words y) (Sym.whole (Nat.gcd x y)).pv:=by
  intro k
  induction k with
  |zero =>
   intro x y hy hx _;have:y=0:=by omega
   subst this;have hw:=whole false (words x) (by omega);rw[aH] at hw;rw[aie];exact l9.cB _ _ _ (by rw[fW];simp) hw
  |succ k ih =>
   intro x y hy hx hyl;by_cases h0:y=0
   ·subst h0;have hw:=whole false (words x) (by omega);rw[aH] at hw;rw[aie];exact l9.cB _ _ _ (by rw[fW];simp) hw
   ·have hy0:(words y).length≠0:=by rw[Ne,dO];exact h0
    have hd:=mW (words x) (words y) (iS _) (iS _) (by intro e;rw[e] at hy0;simp at hy0) (by omega) (by omega);rw[aH,aH] at hd;have hm:=ahd x (show 0<y by omega);refine l9.l10 _ _ _ _ (by omega) hd ?_;rw[aij,Nat.gcd_rec,aij];exact ih y (x%y) (by omega) hyl (afJ (eu (aiK hm)) hyl)
 exact l9.e0 a b _ _ h1 h2 (loop _ _ _ (afy _) (by omega) (by omega))
end cV
end Go.Proofs.YtcpnocgollpbhaaGreatDoor.Sym
