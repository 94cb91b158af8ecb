/- Lemmas for the statements of this seat. -/
import Derived.Test.YtcpnocgollpbhaaGreatDoorW25
import Derived.Deep.Slices
import Derived.WideKeyArgs
import Derived.RowKit3
import Derived.WalkKit
import Derived.ProofKit
import Derived.OpenShut
import Derived.SizedLaws
import Derived.Test.YtcpnocgollpbhaaGreatDoorT0
import Derived.Test.YtcpnocgollpbhaaGreatDoorP0
namespace Go.Proofs.YtcpnocgollpbhaaGreatDoor.Sym
open Go Go.RowKit Go.ChangeShapes Go.WideShapes
set_option linter.unusedVariables false
abbrev Old(w:World)(b:Nat):Prop:=b<w.heap.size
def tQ(P:Program)(t:TypeId){α:Type}(f:α→List PV)(Q:α→Prop):Prop :=
 ∀{H:Type} (enc:TypeId×Value→H) (w:World) (base:Nat) (spare:Nat→Bool) (held:Bool) (fuel:Nat) (cs:List Value) (x:DataW H×List MemPlace),
  DataW.trod enc P w base spare held fuel t cs=some x→(∀n∈x.1.weights P t,n≤reachBytes)→∃a,bE (Old w) w (f a) cs∧Q a
theorem tR{I:Nat→Prop}{w:World}{a b:List PV}{us vs:List Value}(h:bE I w a us)(k:bE I w b vs):bE I w (a++b) (us++vs):=by
 refine⟨by rw[agB,agB,h.1,k.1],fun j c u hc hu => ?_⟩;by_cases hj:j<a.length
 ·rw[ahz hj] at hc;rw[ahz (by rw[←h.1];exact hj)] at hu;exact h.2 j c u hc hu
 ·rw[aha (by omega)] at hc;rw[aha (by rw[←h.1];omega)] at hu;rw[h.1] at hc;exact k.2 _ c u hc hu
theorem nU{I:Nat→Prop}{w:World}{p:PV}{v:Value}(h1:p.one=true)(h:Rd I w p v):bE I w [p] [v]:=by
 refine⟨rfl,fun j c u hc hu => ?_⟩;cases j with
 |zero=>simp at hc hu;subst hc hu;exact⟨h1,h⟩
 |succ j=>simp at hc
theorem MO{P:Program}{t:TypeId}{k:IntKind}(ht:P.underlying t=some (.int k)):tQ P t (fun n:Int=>[.int k n]) (fun n=>(Lit.int k n).wf=true):=by intro H enc w base spare held fuel cs x h _;obtain⟨n,rfl,_,hw⟩:=DataW.trod_int ht h;exact⟨n,nU rfl (.int _ _),hw⟩
theorem J9{P:Program}{t:TypeId}(ht:P.underlying t=some .bool):tQ P t (fun b:Bool=>[.bool b]) (fun _=>True):=by intro H enc w base spare held fuel cs x h _;obtain⟨b,rfl,_⟩:=DataW.trod_bool ht h;exact⟨b,nU rfl (.bool _),trivial⟩
theorem O3{w:World}{a:Addr}{v:Value}(h:w.cell? a=some v):a.spot=none∧a.block<w.heap.size:=by
 unfold World.cell? at h;split at h
 ·rename_i c q r hc;refine⟨?_,(agY.1 hc).1⟩;cases hs:a.spot with
  |none=>rfl
  |some _=>rw[hs] at h;simp at h
 ·cases h
theorem H5(a:Addr):a.add 0=a:=rfl
theorem Ey(b o i:Nat):(⟨b,o,none⟩:Addr).add i=⟨b,o+i,none⟩:=by
 unfold Addr.add;split
 ·rename_i h;subst h;rfl
 ·rfl
theorem zQ{H:Type}{P:Program}{e:TypeId} : ∀{l:List (DataW H)} {d:DataW H} {n:Nat},d∈l→n∈d.weights P e→n∈DataW.weightsAll P e l
 |a::r,d,n,hd,hn=>by
  simp only[DataW.weightsAll,List.mem_append];rcases agp.1 hd with h|h
  ·subst h;exact Or.inl hn
  ·exact Or.inr (zQ h hn)
theorem tS{P:Program}{t e:TypeId}{α:Type}{f:α→List PV}{Q:α→Prop}{s sb:Nat}(ht:P.underlying t=some (.slice e))(hs:P.cellsOf e=s)(NC:0<s)(hb8:P.bytesOf e=sb)(hf:∀a,(f a).length=s)(ho:tQ P e f Q) :
  tQ P t (fun l:List α=>[.list (l.map f)]) (fun l=>l.length*sb≤reachBytes∧∀a∈l,Q a):=by
 intro H enc w base spare held fuel cs x h G9;rcases Deep.open_slice ht h with ⟨rfl,_⟩|⟨a,len,cap,m,n,D,Pl,rfl,hb,hl,hm,hmm,SW,hx⟩
 ·exact⟨[],nU rfl (.nil _ _),by simp,by simp⟩
 rw[hs] at hx;have hlm:len≤m:=by rw[hmm];split<;>omega
 have x6:∀i,i<len→∃(y:α×List Value),w.cells? base (a.add (i*s)) s=some y.2∧bE (Old w) w (f y.1) y.2∧Q y.1:=by
  intro i hi;obtain⟨Yx,h1,h2⟩:=hx i (by omega);obtain⟨y,h3,h4⟩:=ho enc w base spare held n Yx _ h2 (fun q hq=>G9 q (by rw[SW];simp only[DataW.weights,ht,List.mem_cons,List.mem_append];exact Or.inr (Or.inl (zQ (agI.2 ⟨i,aiw.2 hi,rfl⟩) hq))))
  exact⟨(y,Yx),h1,h3,h4⟩
 by_cases h0:len=0
 ·subst h0;exact⟨[],nU rfl (.nil _ _),by simp,by simp⟩
 have et:Nonempty (α×List Value):=⟨(x6 0 (by omega)).choose⟩;have:Inhabited (α×List Value):=Classical.inhabited_of_nonempty et;obtain⟨Y,hY⟩:=Deep.choose_lt x6;obtain⟨c0,_⟩:=hY 0 (by omega);obtain⟨_,cl0,cg0⟩:=World.cells?_some c0;have cg:=cg0 0 NC;obtain⟨v0,RJ⟩:∃v,(Y 0).2[0]? = some v:=⟨_,afO (by omega)⟩;rw[RJ] at cg;rw[aiV,H5,H5] at cg;obtain⟨Mq,Ez⟩:=O3 cg;obtain⟨b,o,sp⟩:=a;simp only at Mq Ez;subst Mq;have O4:∀i j:Nat,i<len→j<s→w.cell? ⟨b,o+(i*s+j),none⟩=(Y i).2[j]? := by intro i j hi hj;obtain⟨c1,_⟩:=hY i hi;obtain⟨_,_,g⟩:=World.cells?_some c1;have:=g j hj;rw[Ey,Ey,ajf] at this;exact this
 refine⟨(List.range len).map (fun i=>(Y i).1),nU rfl ?_,?_,?_⟩
 ·have e:len=(((List.range len).map (fun i=>(Y i).1)).map f).length:=by simp
  have ym:∀(i:Nat) row,(((List.range len).map (fun i=>(Y i).1)).map f)[i]? = some row→i<len∧row=f (Y i).1:=by
   intro i row hr;have hi:i<len:=by have:=(afQ.1 hr).1;rw[←e] at this;exact this
   refine⟨hi,?_⟩;simp[List.getElem?_map,List.getElem?_range hi] at hr;exact hr.symm
  have key:Rd (Old w) w (.list (((List.range len).map (fun i=>(Y i).1)).map f)) (.slice (some ⟨b,o,none⟩) (((List.range len).map (fun i=>(Y i).1)).map f).length cap):=by
   refine Rd.list _ b o cap s (fun i j=>((Y i).2[j]?).getD .nilIface) (by rw[←e];exact hl) Ez ?_ ?_ ?_
   ·intro i row hr;obtain⟨_,rfl⟩:=ym i row hr;exact hf _
   ·intro i j row x hr Ov;obtain⟨hi,rfl⟩:=ym i row hr;obtain⟨c1,r1,_⟩:=hY i hi;have hj:j<s:=by rw[←hf (Y i).1];exact(afQ.1 Ov).1
    have hlen:=r1.1;obtain⟨u,hu⟩:∃u,(Y i).2[j]? = some u:=⟨_,afO (by rw[←hlen,hf];exact hj)⟩;refine⟨(r1.2 j x u Ov hu).1,?_⟩;rw[O4 i j hi hj,hu];rfl
   ·intro i j row x hr Ov;obtain⟨hi,rfl⟩:=ym i row hr;obtain⟨c1,r1,_⟩:=hY i hi;have hj:j<s:=by rw[←hf (Y i).1];exact(afQ.1 Ov).1
    have hlen:=r1.1;obtain⟨u,hu⟩:∃u,(Y i).2[j]? = some u:=⟨_,afO (by rw[←hlen,hf];exact hj)⟩;rw[hu];exact(r1.2 j x u Ov hu).2
  rw[←e] at key;exact key
 ·have:=G9 ((len+(m-len))*sb) (by
   rw[SW];simp only[DataW.weights,ht,hb8,List.length_map,List.length_range,List.mem_cons,true_or])
  rw[afW,ahn];exact ag3 (afU _ (by omega)) this
 ·intro y hy;obtain⟨i,hi,rfl⟩:=agI.1 hy;exact(hY i (aiw.1 hi)).2.2
theorem xC{P:Program}{t:TypeId}{fs:Array Field}(ht:P.underlying t=some (.struct fs)){H:Type}{enc:TypeId×Value→H}{w:World}{base:Nat}{spare:Nat→Bool}{held:Bool}{fuel:Nat}{cs:List Value}{x:DataW H×List MemPlace}
  (h:DataW.trod enc P w base spare held fuel t cs=some x):cs.length=P.cellsOf t:=(DataW.trod_struct ht h).choose_spec.choose_spec.2.2.1
theorem qw{P:Program}{t u:TypeId}{fs:Array Field}{α:Type}{f:α→List PV}{Q:α→Prop}(ht:P.underlying t=some (.struct fs)){H:Type}{enc:TypeId×Value→H}{w:World}{base:Nat}{spare:Nat→Bool}{held:Bool}{fuel:Nat}{cs:List Value}{x:DataW H×List MemPlace}
  (h:DataW.trod enc P w base spare held fuel t cs=some x) (G9:∀n∈x.1.weights P t,n≤reachBytes) (i off s:Nat) (hi:(fs[i]?).map (fun f=>(f.type,f.offset))=some (u,off)) (hs:P.cellsOf u=s) (ho:tQ P u f Q):∃a,bE (Old w) w (f a) ((cs.drop off).take s)∧Q a:=by
 obtain⟨xs,n,_,hx,hl,hlen,hf⟩:=DataW.trod_struct ht h;cases hfi:fs[i]? with
 |none=>rw[hfi] at hi;cases hi
 |some fd =>
  rw[hfi] at hi;injection hi with hi
  injection hi with e1 e2
  have h1:=hf i fd hfi;have h2:i<xs.length:=by rw[hlen];exact(agY.1 hfi).1
  rw[afO h2,e1,e2,hs] at h1;refine ho enc w base spare held n _ _ h1 (fun q hq=>G9 q ?_);rw[hx];simp only[DataW.weights,ht];refine DataW.weights_mem_each (j:=i) (t:=u) (d:=xs[i].1) ?_ ?_ q hq
  ·rw[afT,ahh,hfi];exact ah8 some e1
  ·rw[afT,afO h2];rfl
def Cj:Option TypeDesc→Option (List (TypeId×Nat))
 |some (.struct fs)=>some (fs.toList.map fun f=>(f.type,f.offset))
 |_=>none
theorem yI{u:Option TypeDesc}{l:List (TypeId×Nat)}(h:Cj u=some l):∃fs,u=some (.struct fs)∧∀i:Nat,(fs[i]?).map (fun f=>(f.type,f.offset))=l[i]? := by
 unfold Cj at h;split at h
 ·rename_i fs;injection h with h
  refine⟨fs,rfl,fun i => ?_⟩;rw[←h,afT,ahh]
 ·cases h
theorem MP{P:Program}{t:TypeId}{fs:Array Field}{w:World}{r:Reach}{b0:Nat}{v:Value}{cs:List PV}(ht:P.underlying t=some (.struct fs))(hv:Value.okWide P w r b0 t v)(h:bE (Old w) w cs v.cells.toList):Rd (Old w) w (.agg cs) v:=by obtain⟨us,rfl,_⟩:=okWide_struct ht hv;have h:bE (Old w) w cs us.toList:=h;refine .agg cs us (by rw[h.1];simp) (fun j c hc => ?_) (fun j c u hc hu=>(h.2 j c u hc (by simpa using hu)).2);obtain⟨u,hu⟩:∃u,us.toList[j]? = some u:=⟨_,afO (by rw[←h.1];exact(afQ.1 hc).1)⟩;exact(h.2 j c u hc hu).1
theorem Ka{w w':World}{may:MemPlace→Prop}(h:lJ (fun _=>False) w w'):w.keptBut w' may:=by
 refine⟨h.os,h.output,fun i hi => ?_⟩;have e:=h.block i hi (fun h=>h);rw[e];cases w.heap[i]? with
 |none=>rfl
 |some o=>cases o<;>simp
theorem FX{w w':World}(h:lJ (fun _=>False) w w'){a:Addr}(ha:a.block<w.heap.size):w'.frozen? a=w.frozen? a:=by have e:=h.block _ ha (fun h=>h);unfold World.frozen?;rw[e]
theorem Kb{w w':World}(h:lJ (fun _=>False) w w'){p:MemPlace}(hp:p.block<w.heap.size):w.sameAt w' p:=by
 cases p with
 |cell b off =>have e:=h.block b hp (fun h=>h);show w'.cell? _=w.cell? _;simp[World.cell?,e]
 |map b=>exact h.block b hp (fun h=>h)
section
variable {H:Type} {enc:TypeId×Value→H} {P:Program}
theorem MQ{f:Func}{s:ChangeSpec}{apart fresh handsOn again:Bool}{W W':World}{args:Array Value}{ds gs:List (DataW H)}{before:List MemPlace}{tb:TypeId}
  (hW:DataW.Whole enc P f.params.toList s.vars apart W args.toList ds gs before) (hk:lJ (fun _=>False) W W')
  (S7:s.vars=[]) (hrt:f.resultTypes = #[tb]) (htb:P.underlying tb=some .bool)
  (oZ:(s.fn H (ds++gs)).results=[.lit (.bool true)]) (ky:(s.fn H (ds++gs)).args=ds) (hgs:(s.fn H (ds++gs)).vars=[])
  (hl:laidOutB P=true) (hr:∀t∈f.params.toList,P.readableRec t=true∧t<P.types.size):s.post enc P f apart fresh handsOn again W args (.bool true) W':=by
 have bH:=hW.lt;obtain⟨p,q,hA,hV,Ro,hz,hn⟩:=hW;have hW:DataW.Whole enc P f.params.toList s.vars apart W args.toList ds gs before:=⟨p,q,hA,hV,Ro,hz,hn⟩;rw[S7] at hV;obtain⟨AJ,o4⟩:=trodVars_none hV;subst o4;have YP:before=p:=by rw[Ro];simp
 have UT:∀(sp:Nat→Bool),(∀x∈before,sp x.block=true)→DataW.TrodAll enc P W' 0 sp true f.params.toList args.toList ds p:=by
  intro sp Mq;have key:∀{ts:List TypeId} {vs:List Value} {es:List (DataW H)} {ps:List MemPlace},(∀t∈ts,P.readableRec t=true∧t<P.types.size)→(∀x∈ps,x∈before)→DataW.TrodAll enc P W 0 (fun _=>true) true ts vs es ps→DataW.TrodAll enc P W' 0 sp true ts vs es ps:=by
   intro ts
   induction ts with
   |nil =>intro vs es ps _ _ h;obtain⟨rfl,rfl,rfl⟩:=trodAll_nil h;exact trodAll_mk0
   |cons t ts ih =>intro vs es ps S8 oz h;obtain⟨v,vs',d,ds',a,b,rfl,rfl,rfl,h1,h2⟩:=trodAll_cons h;refine⟨a,b,WideElems.Trod_stays hl (S8 t (agM ..)).1 (S8 t (agM ..)).2 h1 (fun x hx=>Kb hk (bH x (oz x (aiO _ hx)))) (fun x hx=>Mq x (oz x (aiO _ hx))),ih (fun u hu=>S8 u (agm _ hu)) (fun x hx=>oz x (List.mem_append_right _ hx)) h2,rfl⟩
  exact key hr (fun x hx=>by rw[YP];exact hx) hA
 have hold:∀x∈before,(fun b=>decide (b<W.heap.size)) x.block=true:=fun x hx=>by simpa using bH x hx
 have K4:∀(b:Nat) (sp:Nat→Bool) (hd:Bool),DataW.TrodAll enc P W' b sp hd f.resultTypes.toList ((Value.bool true).resultList f.resultTypes.size) (s.fn H (ds++gs)).results []:=by intro b sp hd;rw[hrt,oZ];exact trodAll_mk1 (shut_bool htb true)
 have G8:∀sp:Nat→Bool,DataW.TrodVars enc P W' sp s.vars (s.fn H (ds++gs)).vars []:=by intro sp;rw[S7,hgs];rfl
 have O5:∀(sp:Nat→Bool),(∀x∈before,sp x.block=true)→DataW.TrodAll enc P W' 0 sp true f.params.toList args.toList (s.fn H (ds++gs)).args p:=by intro sp Mq;rw[ky];exact UT sp Mq
 refine⟨ds,gs,before,[],p,[],hW,K4 _ _ _,O5 _ hold,G8 _,Ka hk,fun _ => ?_⟩;refine⟨ok_one hrt rfl (okWide_bool_mk htb true),_,_,([]++p)++[],⟨[]++p,[],trodAll_append (O5 _ (fun _ _=>rfl)) (K4 _ _ _),G8 _,rfl,?_,?_⟩,?_⟩
 ·intro b off hp;have hp':MemPlace.cell b off∈before:=by rw[YP];simpa using hp
  rw[FX hk (bH _ hp')];exact hz b off hp'
 ·intro ha;have:=hn ha;rw[YP] at this;simpa using this
 ·intro x hx _;rw[YP];simpa using hx
end
end Go.Proofs.YtcpnocgollpbhaaGreatDoor.Sym
namespace Go.Proofs.YtcpnocgollpbhaaGreatDoor.Sym
open Go Go.RowKit Go.ChangeShapes Go.WideShapes
set_option linter.unusedVariables false
theorem RK{n:Int}(h:(Lit.int .u32 n).wf=true):∃v:UInt32,(v.toNat:Int)=n:=by
 have h:(0≤n∧n≤4294967295):=by simpa[Lit.wf,IntKind.min,IntKind.max,IntKind.signed,IntKind.bits] using h
 refine⟨UInt32.ofNat n.toNat,?_⟩;rw[show (UInt32.ofNat n.toNat).toNat=n.toNat from by simp;omega];omega
theorem Kc:tQ bp 112 ah (fun _=>True):=by intro H enc w base spare held fuel cs x h G9;obtain⟨n,h1,h2⟩:=MO (k := .u32) (show bp.underlying 112=some (.int .u32) by kernel_rfl) enc w base spare held fuel cs x h G9;obtain⟨v,rfl⟩:=RK h2;exact⟨v,h1,trivial⟩
theorem zR:tQ bp 34 (fun l:Words=>[af l]) (fun l=>l.length*4≤reachBytes):=by intro H enc w base spare held fuel cs x h G9;obtain⟨l,h1,h2,_⟩:=tS (s:=1) (show bp.underlying 34=some (.slice 112) by kernel_rfl) (by kernel_rfl) (by omega) (sb:=4) (by kernel_rfl) (fun _=>rfl) Kc enc w base spare held fuel cs x h G9;exact⟨l,h1,h2⟩
theorem UU{α:Type}(cs:List α)(a b c:Nat)(h:cs.length=a+b+c):cs=(cs.drop 0).take a++((cs.drop a).take b++(cs.drop (a+b)).take c):=by
 have e:(cs.drop (a+b)).take c=cs.drop (a+b):=agd (by rw[ahT];omega);have h1:(cs.drop a).take b++cs.drop (a+b)=cs.drop a:=by have:=ai0 b (cs.drop a);rwa[ajx] at this
 rw[e,h1,ah3,ai0]
def RL(a:ag):Prop:=a.num.length*4≤reachBytes∧a.den.length*4≤reachBytes
theorem Kd:tQ bp 36 ag.cells RL:=by intro H enc w base spare held fuel cs x h G9;obtain⟨fs,hu,e⟩:=yI (show Cj (bp.underlying 36)=some [(4,0),(34,1),(34,2)] by kernel_rfl);have hl:=xC hu h;have hl:cs.length=1+1+1:=hl.trans (by kernel_rfl);obtain⟨b,r0,_⟩:=qw hu h G9 0 0 1 (e 0) (by kernel_rfl) (J9 (show bp.underlying 4=some .bool by kernel_rfl));obtain⟨n,r1,q1⟩:=qw hu h G9 1 1 1 (e 1) (by kernel_rfl) zR;obtain⟨d,r2,q2⟩:=qw hu h G9 2 2 1 (e 2) (by kernel_rfl) zR;refine⟨⟨b,n,d⟩,?_,q1,q2⟩;rw[UU cs 1 1 1 hl];exact tR r0 (tR r1 r2)
theorem yJ:tQ bp 26 (db ag.cells) (fun l=>∀a∈l,RL a):=by intro H enc w base spare held fuel cs x h G9;obtain⟨l,h1,_,h2⟩:=tS (s:=3) (show bp.underlying 26=some (.slice 36) by kernel_rfl) (by kernel_rfl) (by omega) (sb:=56) (by kernel_rfl) (fun _=>rfl) Kd enc w base spare held fuel cs x h G9;exact⟨l,h1,h2⟩
theorem Ke:tQ bp 22 (fun l:List (List ag)=>[dp (db ag.cells) l]) (fun l=>∀p∈l,∀a∈p,RL a):=by intro H enc w base spare held fuel cs x h G9;obtain⟨l,h1,_,h2⟩:=tS (s:=1) (show bp.underlying 22=some (.slice 26) by kernel_rfl) (by kernel_rfl) (by omega) (sb:=24) (by kernel_rfl) (fun _=>rfl) yJ enc w base spare held fuel cs x h G9;exact⟨l,h1,h2⟩
theorem FY:tQ bp 24 aA.cells (fun x=>∀p∈x.roots,∀a∈p,RL a):=by intro H enc w base spare held fuel cs x h G9;obtain⟨fs,hu,e⟩:=yI (show Cj (bp.underlying 24)=some [(22,0)] by kernel_rfl);have hl:=xC hu h;have hl:cs.length=1:=hl.trans (by kernel_rfl);obtain⟨a,r0,q0⟩:=qw hu h G9 0 0 1 (e 0) (by kernel_rfl) Ke;refine⟨⟨a⟩,?_,q0⟩;rw[ah3,agd (by omega)] at r0;exact r0
end Go.Proofs.YtcpnocgollpbhaaGreatDoor.Sym
namespace Go.Proofs.YtcpnocgollpbhaaGreatDoor.Sym
def nat:Words→Nat
 |[]=>0
 |w::r=>w.toNat+4294967296*nat r
def sA:Nat→Nat→Words
 |0,_=>[]
 |f+1,n=>bif Nat.beq n 0 then [] else UInt32.ofNat n::sA f (n/4294967296)
def words(n:Nat):Words:=sA n n
theorem ju(w:UInt32):w.toNat<4294967296:=w.toNat_lt
theorem uB(n:Nat):(UInt32.ofNat n).toNat=n%4294967296:=by simp
theorem UW{a b:UInt32}(h:a.toNat=b.toNat):a=b:=UInt32.toNat_inj.1 h
theorem aau{n:Nat}(h:n<4294967296):(UInt32.ofNat n).toNat=n:=by rw[uB];exact agu h
theorem iw(n:Nat)(h:n<4294967296):∃w:UInt32,w.toNat=n:=⟨UInt32.ofNat n,aau h⟩
theorem wg : ∀ (f n : Nat), n ≤ f → nat (sA f n) = n
  | 0, n, h => by have : n = 0 := by omega
                  subst this; rfl
  | f + 1, n, h => by
    unfold sA;by_cases h0 : n = 0
    · subst h0; rfl
    · have : Nat.beq n 0 = false := by
        cases hb : Nat.beq n 0 with
        | true => exact absurd (ag0 hb) h0
        | false => rfl
      rw [this];show (UInt32.ofNat n).toNat + 4294967296 * nat (sA f (n / 4294967296)) = n;rw [wg f (n / 4294967296) (by omega), uB];omega
theorem aB(n:Nat):nat (words n)=n:=wg n n (afY n)
def cn:Words→Bool
 |[]=>true
 |[w]=>w.toNat != 0
 |_::w::r=>cn (w::r)
theorem FZ{w:UInt32}{r:Words}(h:cn (w::r)=true):cn r=true:=by
 cases r with
 |nil=>rfl
 |cons v r=>exact h
theorem qT:∀{l:Words},cn l=true→l≠[]→0<nat l
 |[],_,h=>absurd rfl h
 |[w],h,_=>by simp[cn] at h;show 0<w.toNat+4294967296*0;omega
 |w::v::r,h,_=>by have:=qT (l:=v::r) h (by simp);show 0<w.toNat+4294967296*nat (v::r);omega
theorem O6:∀{a b:Words},cn a=true→cn b=true→nat a=nat b→a=b
 |[],[],_,_,_=>rfl
 |[],w::r,_,hb,h=>by have:=qT hb (by simp);have h0:nat []=0:=rfl;omega
 |w::r,[],ha,_,h=>by have:=qT ha (by simp);have h0:nat []=0:=rfl;omega
 |w::r,v::s,ha,hb,h=>by
  have h:w.toNat+4294967296*nat r=v.toNat+4294967296*nat s:=h;have h1:=ju w;have h2:=ju v;have h3:w.toNat=v.toNat:=by omega
  have h4:nat r=nat s:=by omega
  rw[UW h3,O6 (FZ ha) (FZ hb) h4]
theorem EA:∀(f n:Nat),n≤f→cn (sA f n)=true
 |0,n,_=>rfl
 |f+1,n,h=>by
  unfold sA;by_cases h0:n=0
  ·subst h0;rfl
  ·have:Nat.beq n 0=false:=by
    cases hb:Nat.beq n 0 with
    |true=>exact absurd (ag0 hb) h0
    |false=>rfl
   rw[this];show cn (UInt32.ofNat n::sA f (n/4294967296))=true;have ih:=EA f (n/4294967296) (by omega);have hn:=wg f (n/4294967296) (by omega);cases hr:sA f (n/4294967296) with
   |nil =>
    rw[hr] at hn;have hn:0=n/4294967296:=hn;show((UInt32.ofNat n).toNat != 0)=true;rw[uB];have:n%4294967296≠0:=by omega
    simpa using this
   |cons v r=>rw[hr] at ih;exact ih
theorem ix(n:Nat):cn (words n)=true:=EA n n (afY n)
theorem tT{l:Words}{n:Nat}(hc:cn l=true)(h:nat l=n):words n=l:=O6 (ix n) hc (by rw[aB,h])
theorem fk{l:Words}(hc:cn l=true):words (nat l)=l:=tT hc rfl
theorem fJ:words 0=[]:=rfl
theorem uC{n:Nat} : words n=[]↔n=0:=by
 constructor
 ·intro h;rw[←aB n,h];rfl
 ·intro h;subst h;rfl
theorem dF{n:Nat} : (words n).length=0↔n=0:=by rw[List.length_eq_zero_iff,uC]
theorem eC:∀l:Words,nat l<4294967296^l.length
 |[]=>by simp[nat]
 |w::r=>by have h1:=eC r;have h2:=ju w;show w.toNat+4294967296*nat r<4294967296^(r.length+1);rw[agb];omega
theorem np:∀a b:Words,nat (a++b)=nat a+4294967296^a.length*nat b
 |[],b=>by simp[nat]
 |w::r,b=>by show w.toNat+4294967296*nat (r++b)=w.toNat+4294967296*nat r+4294967296^(r.length+1)*nat b;rw[np r b,agb,agl,←agr,agR 4294967296 (4294967296^r.length)];omega
theorem km(l:Words)(k:Nat)(h:k≤l.length):nat l=nat (l.take k)+4294967296^k*nat (l.drop k):=by
 conv=>lhs;rw[←ai0 k l]
 rw[np,agh,ah0 h]
theorem bL{l:Words}{k:Nat}{v:UInt32}(h:l[k]? = some v):nat (l.take (k+1))=nat (l.take k)+4294967296^k*v.toNat:=by have hk:k<l.length:=(afQ.1 h).1;rw[agH,h];show nat (l.take k++[v])=_;rw[np,agh,ah0 (aja hk)];simp[nat]
theorem rn{l:Words}{k:Nat}{v:UInt32}(h:l[k]? = some v):nat (l.drop k)=v.toNat+4294967296*nat (l.drop (k+1)):=by
 have hk:k<l.length:=(afQ.1 h).1;have hv:l[k]=v:=by have:=afO hk;rw[h] at this;injection this with this;exact this.symm
 rw[ahp hk,hv];rfl
theorem nr:∀n:Nat,nat (List.replicate n 0)=0
 |0=>rfl
 |n+1=>by show(0:UInt32).toNat+4294967296*nat (List.replicate n 0)=0;rw[nr n];rfl
theorem qx:∀(l:Words) (k:Nat) (v u:UInt32),l[k]? = some u→nat (l.set k v)+4294967296^k*u.toNat=nat l+4294967296^k*v.toNat
 |[],k,v,u,h=>by simp at h
 |w::r,0,v,u,h=>by simp at h;subst h;show v.toNat+4294967296*nat r+4294967296^0*w.toNat=w.toNat+4294967296*nat r+4294967296^0*v.toNat;omega
 |w::r,k+1,v,u,h=>by have ih:=qx r k v u (by simpa using h);show w.toNat+4294967296*nat (r.set k v)+4294967296^(k+1)*u.toNat=w.toNat+4294967296*nat r+4294967296^(k+1)*v.toNat;rw[agb,agR (4294967296^k) 4294967296,agr,agr];omega
theorem gL{l:Words}{k:Nat}{v:UInt32}(h:k<l.length):nat ((l.set k v).take (k+1))=nat (l.take k)+4294967296^k*v.toNat:=by rw[bL (v:=v) (by simp[h]),List.take_set_of_le (afY k)]
theorem aT{l:Words}{k:Nat}(h:l.length≤k):nat (l.take k)=nat l:=by rw[agd h]
theorem fo{n k:Nat}(h:n<4294967296^k):(words n).length≤k:=by
 have key:∀(l:Words),cn l=true→∀k,nat l<4294967296^k→l.length≤k:=by
  intro l
  induction l with
  |nil=>intro _ k _;simp
  |cons w r ih =>
   intro hc k hk;have hp:=qT hc (by simp);cases k with
   |zero=>simp at hk;omega
   |succ k =>have h1:w.toNat+4294967296*nat r<4294967296^(k+1):=hk;rw[agb] at h1;have:=ih (FZ hc) k (by omega);simp;omega
 exact key _ (ix n) k (by rw[aB];exact h)
theorem ko(n:Nat):n<4294967296^(words n).length:=by have:=eC (words n);rwa[aB] at this
theorem mD{a b:Nat}(h:a≤b):4294967296^a≤4294967296^b:=ag6 (by omega) h
theorem dZ{m n:Nat}(h:m≤n):(words m).length≤(words n).length:=fo (ahg h (ko n))
theorem Cl(l:Words):(words (nat l)).length≤l.length:=fo (eC l)
theorem H6{l:Words}(hc:cn l=true)(et:l≠[]):4294967296^(l.length-1)≤nat l:=by
 refine ajd fun h => ?_
 have h1:=fo h;rw[fk hc] at h1;have:0<l.length:=ag8.2 et;omega
theorem nH:∀{l:Words} {v:UInt32},l[l.length-1]? = some v→(cn l=true↔v.toNat≠0)
 |[],v,h=>by simp at h
 |[w],v,h=>by simp at h;subst h;simp[cn]
 |w::u::r,v,h=>by
  have h':(u::r)[(u::r).length-1]? = some v:=by simp only[List.length_cons,Nat.add_sub_cancel] at h ⊢;rw[show r.length+1=(r.length)+1 from rfl,ahu] at h;exact h
  exact nH (l:=u::r) h'
open Go Path
abbrev Fit(l:Words):Prop:=l.length≤1099511627776
def av.valid(a:av):Bool:=bif a.cD.isEmpty then !a.neg else cn a.cD
def av.val(a:av):Int:=bif a.valid then (bif a.neg then -(nat a.cD:Int) else (nat a.cD:Int)) else 0
def whole(i:Int):av:=⟨decide (i<0),words i.natAbs⟩
theorem aC(i:Int):(whole i).val=i:=by
 unfold av.val av.valid whole;simp only[aB];by_cases h:i=0
 ·subst h;rfl
 ·have h1:(words i.natAbs).isEmpty=false:=by
   rw[ajy];intro e;rw[uC] at e;omega
  rw[h1];simp only[cond_false,ix,cond_true];by_cases h2:i<0
  ·simp[h2];omega
  ·simp[h2];omega
theorem dj{l:Words} : l.isEmpty=decide (l.length=0):=by cases l<;>simp
namespace cF
theorem Valid(a:av)(h:Fit a.cD):Cp 171 [a.pv] (vB a.valid):=by
 unfold av.valid;rw[dj];by_cases h0:a.cD.length=0
 ·simp only[h0,decide_true,cond_true];exact qQ.e0 a h0
 ·simp only[h0,decide_false,cond_false];obtain⟨v,hv⟩:∃v,a.cD[a.cD.length-1]? = some v:=⟨_,afO (by omega)⟩;have:=qQ.e1 a (a.cD.length-1) v h0 (by unfold az;omega) (by omega) hv;have e:cn a.cD=((v.toNat:Int) != 0):=by
   have h1:=nH hv;by_cases h2:v.toNat=0
   ·have h3:((v.toNat:Int) != 0)=false:=by simp[h2]
    rw[h3];cases hc:cn a.cD with
    |true=>exact absurd h2 (h1.1 hc)
    |false=>rfl
   ·have h3:((v.toNat:Int) != 0)=true:=by simp;omega
    rw[h3];exact h1.2 h2
  rw[e];exact this
theorem AK(a:av):decide (a.val<0)=(a.valid&&a.neg):=by
 unfold av.val;cases hv:a.valid with
 |false=>simp
 |true =>
  cases hn:a.neg with
  |false=>simp
  |true =>
   simp only[cond_true,Bool.and_true];unfold av.valid at hv;have:0<nat a.cD:=by
    cases he:a.cD.isEmpty with
    |true=>rw[he,hn] at hv;cases hv
    |false =>rw[he] at hv;exact qT hv (by rw[←ajy];exact he)
   simp;omega
theorem F0(a:av):words a.val.natAbs=bif a.valid then a.cD else []:=by
 unfold av.val;cases hv:a.valid with
 |false=>rfl
 |true =>
  have hc:cn a.cD=true:=by
   unfold av.valid at hv;cases he:a.cD.isEmpty with
   |true=>rw[ajE] at he;rw[he];rfl
   |false=>rw[he] at hv;exact hv
  cases hn:a.neg with
  |false=>simp only[cond_true,cond_false,Int.natAbs_natCast];exact fk hc
  |true=>simp only[cond_true,Int.natAbs_neg,Int.natAbs_natCast];exact fk hc
theorem cD(a:av)(h:Fit a.cD):Cp 105 [a.pv] (af (words a.val.natAbs)):=by
 rw[F0];cases hv:a.valid with
 |false=>exact tK.e0 a a.valid (Valid a h) hv
 |true=>exact tK.e1 a a.valid (Valid a h) hv
theorem neg(a:av)(h:Fit a.cD):Cp 106 [a.pv] (vB (decide (a.val<0))):=by
 rw[AK];cases hv:a.valid with
 |false=>exact tL.e1 a a.valid (Valid a h) hv
 |true=>rw[ahc];exact tL.e0 a a.valid (Valid a h) hv
theorem trim(m:Words)(h:m.length≤35184372088832):Cp 172 [af m] (af (words (nat m))):=by
 have loop:∀n:Nat,n≤m.length→nat (m.take n)=nat m→ki.ai m (n:Int) (af (words (nat m))):=by
  intro n
  induction n with
  |zero =>
   intro _ h2;have:nat m=0:=by rw[←h2];rfl
   rw[this,fJ];exact ki.uA m _ (by omega) rfl
  |succ n ih =>
   intro h1 h2;obtain⟨v,hv⟩:∃v,m[n]? = some v:=⟨_,afO (by omega)⟩;by_cases h0:v.toNat=0
   ·refine ki.l10 m _ n v (by omega) (by unfold az;omega) (by omega) hv h0 ?_;rw[show ((n+1:Nat):Int)-1=(n:Int) from by omega];refine ih (by omega) ?_;rw[bL hv,h0] at h2;simpa using h2
   ·have:=ki.kA m ((n+1:Nat):Int) n v (n+1) (by omega) (by unfold az;omega) (by omega) hv h0 (by omega) rfl h1 (by simp;omega);have e:words (nat m)=m.take (n+1):=by
     refine tT ?_ h2;refine(nH (v:=v) ?_).2 h0;rw[agh,ah0 h1,aik,agG,ag9 (by omega)];exact hv
    rw[e];exact this
 exact ki.e0 m (loop m.length (afY _) (aT (afY _)))
theorem whole(neg:Bool)(m:Words)(h:m.length≤35184372088832):Cp 107 [vB neg,af m] (whole (bif neg then -(nat m:Int) else (nat m:Int))).pv:=by
 cases neg with
 |false =>
  have:=qO.e1 false m _ (trim m h) rfl;have e:decide ((nat m:Int)<0)=false:=by simp
  simp only[Sym.whole,cond_false,e,Int.natAbs_natCast];exact this
 |true =>
  have:=qO.e0 true m _ (trim m h) rfl;have e:decide (((words (nat m)).length:Int)>0)=decide (-(nat m:Int)<0):=by
   have:=dF (n:=nat m);by_cases h0:nat m=0
   ·have h1:=this.2 h0;simp[h0,fJ]
   ·have h1:¬(words (nat m)).length=0:=fun h=>h0 (this.1 h)
    rw[agq (by omega),agq (by omega)]
  rw[e] at this;simpa[Sym.whole] using this
def wd(m:Words)(i:Nat):Nat:=match m[i]? with
 |some w=>w.toNat
 |none=>0
theorem nV(m:Words)(i:Nat):wd m i<4294967296:=by
 unfold wd;cases m[i]? with
 |none=>simp
 |some w=>exact ju w
theorem jK{m:Words}{i:Nat}{v:UInt32}(h:m[i]? = some v):wd m i=v.toNat:=by unfold wd;rw[h]
theorem xD{m:Words}{i:Nat}(h:m.length≤i):wd m i=0:=by unfold wd;rw[agC h]
theorem eb(m:Words)(k:Nat):nat (m.take (k+1))=nat (m.take k)+4294967296^k*wd m k:=by
 by_cases h:k<m.length
 ·have hv:=afO h;rw[bL hv,jK hv]
 ·rw[aT (by omega),aT (by omega),xD (by omega)];omega
theorem word(m:Words)(i:Nat):Cp 189 [af m,vI (i:Int)] (vU (wd m i)):=by
 unfold wd;cases h:m[i]? with
 |none =>have:=ail.1 h;exact sq.e1 m i (by omega)
 |some v =>have:=(afQ.1 h).1;exact sq.e0 m i i v (by omega) rfl h
theorem plus(a b:Words)(ha:a.length≤2199023255552)(hb:b.length≤2199023255552):Cp 140 [af a,af b] (af (words (nat a+nat b))):=by
 have hm:max a.length b.length≤2199023255552:=by omega
 have loop:∀(j t carry:Nat) (site:Words),max a.length b.length+1-t=j→t≤max a.length b.length+1→site.length=max a.length b.length+1→carry≤1 →
   nat (site.take t)+4294967296^t*carry=nat (a.take t)+nat (b.take t)→mo.ai a b carry t site (af (words (nat a+nat b))):=by
  intro j
  induction j with
  |zero =>
   intro t carry site hj ht hs hc hinv;have Ap:t=max a.length b.length+1:=by omega
   have Kf:nat site=nat a+nat b:=by
    rw[aT (by omega),aT (by omega),aT (by omega)] at hinv;have h1:=eC a;have h2:=eC b;have h3:=mD (show a.length≤t-1 by omega);have h4:=mD (show b.length≤t-1 by omega);have h5:(4294967296:Nat)^t=4294967296^(t-1)*4294967296:=by rw[←agb];congr 1;omega
    have zS:carry=0:=by
     cases carry with
     |zero=>rfl
     |succ c =>have h6:4294967296^t*1≤4294967296^t*(c+1):=aga _ (by omega);omega
    subst zS;simpa using hinv
   have:=mo.c9 a b carry t site (words (nat site)) (by omega) (by omega) (trim site (by omega));rwa[Kf] at this
  |succ j ih =>
   intro t carry site hj ht hs hc hinv;have h1:=nV a t;have h2:=nV b t;obtain⟨w,hw⟩:=iw ((carry+(wd a t+wd b t))%4294967296) (by omega);refine mo.l10 a b carry t site _ _ (wd a t+wd b t) (carry+(wd a t+wd b t)) w _ (by omega) (word a t) (word b t) (by omega) (by omega) hw.symm (by omega) rfl (by omega) ?_;refine ih (t+1) _ (site.set t w) (by omega) (by omega) (by simpa using hs) (by simp;omega) ?_;rw[gL (by omega),eb a t,eb b t,hw];have h5:(4294967296:Nat)^(t+1)=4294967296^t*4294967296:=agb ..;rw[h5,agr];have h6:4294967296^t*((carry+(wd a t+wd b t))%4294967296)+4294967296^t*(4294967296*((carry+(wd a t+wd b t))/2^min 32 64))=4294967296^t*carry+4294967296^t*wd a t+4294967296^t*wd b t:=by
    rw[←agl,←agl,←agl]
    congr 1
    have:(2:Nat)^min 32 64=4294967296:=by decide
    rw[this];omega
   omega
 exact mo.e0 a b (by omega) (by omega) (loop _ 0 0 _ rfl (by omega) (by simp) (by omega) (by simp[nat]))
end cF
def dV(a b:Int):Int:=if a<b then -1 else if a=b then 0 else 1
theorem qy{a b:Int}(h:a<b):dV a b = -1:=by simp[dV,h]
theorem oG{a b:Int}(h:b<a):dV a b=1:=by unfold dV;rw[ag7 (by omega),ag7 (by omega)]
theorem AL{a b:Int}(h:a=b):dV a b=0:=by unfold dV;rw[ag7 (by omega),ag9 h]
theorem yK(l:Words)(k:Nat){v:UInt32}(h:l[k]? = some v):nat l=nat (l.take k)+4294967296^k*v.toNat+4294967296^(k+1)*nat (l.drop (k+1)):=by have hk:=(afQ.1 h).1;rw[km l k (by omega),rn h,agb,agl,agr];omega
theorem Cm{a b:Words}{k:Nat}{v w:UInt32}(ha:a[k]? = some v)(hb:b[k]? = some w)(hd:a.drop (k+1)=b.drop (k+1))(h:v.toNat<w.toNat):nat a<nat b:=by rw[yK a k ha,yK b k hb,hd];have h1:=eC (a.take k);have h2:=mD (show (a.take k).length≤k by simp;omega);have h3:4294967296^k*(v.toNat+1)≤4294967296^k*w.toNat:=aga _ h;rw[agl] at h3;omega
namespace cF
theorem compare(a b:Words)(ha:cn a=true)(hb:cn b=true)(hl:a.length<9223372036854775808):Cp 104 [af a,af b] (vI (dV (nat a) (nat b))):=by
 by_cases hlen:a.length=b.length
 ·have loop:∀n:Nat,n≤a.length→a.drop n=b.drop n→dO.ai a b ((n:Int)-1) (vI (dV (nat a) (nat b))):=by
   intro n
   induction n with
   |zero =>
    intro _ hd;have:a=b:=by simpa using hd
    rw[AL (by rw[this])];exact dO.uA a b _ (by omega)
   |succ n ih =>
    intro hn hd;obtain⟨v,hv⟩:∃v,a[n]? = some v:=⟨_,afO (by omega)⟩;obtain⟨w,hw⟩:∃w,b[n]? = some w:=⟨_,afO (by omega)⟩;by_cases he:v.toNat=w.toNat
    ·refine dO.kA a b _ n v n w (by omega) (by omega) hv (by omega) hw he (by unfold az;omega) ?_;rw[show ((n+1:Nat):Int)-1-1=(n:Int)-1 from by omega];refine ih (by omega) ?_;have h1:=List.getElem_of_getElem? hv;obtain⟨h1,h2⟩:=afQ.1 hv;obtain⟨h3,h4⟩:=afQ.1 hw;rw[ahp h1,ahp h3,h2,h4,hd,UW he]
    ·by_cases bH:v.toNat<w.toNat
     ·rw[qy (by have:=Cm hv hw hd bH;omega)];exact dO.l10 a b _ n v n w n v n w (by omega) (by omega) hv (by omega) hw he (by omega) hv (by omega) hw bH
     ·rw[oG (by have:=Cm hw hv hd.symm (by omega);omega)];exact dO.c9 a b _ n v n w n v n w (by omega) (by omega) hv (by omega) hw he (by omega) hv (by omega) hw (by omega)
  refine dO.e2 a b hlen (by unfold az;omega) (loop a.length (afY _) ?_);rw[agv (afY _),agv (by omega)]
 ·have key:∀x y:Words,cn y=true→x.length<y.length→nat x<nat y:=by
   intro x y hy bH;have h1:=eC x;have h2:=H6 hy (by intro e;rw[e] at bH;simp at bH);have h3:=mD (show x.length≤y.length-1 by omega);omega
  by_cases bH:a.length<b.length
  ·rw[qy (by have:=key a b hb bH;omega)];exact dO.e0 a b hlen bH
  ·rw[oG (by have:=key b a ha (by omega);omega)];exact dO.e1 a b hlen (by omega)
theorem less(a b:Words)(ha:a.length≤2199023255552)(gM:nat b≤nat a):Cp 141 [af a,af b] (af (words (nat a-nat b))):=by
 have loop:∀(j t borrow:Nat) (site:Words),a.length-t=j→t≤a.length→site.length=a.length→borrow≤1 →
   nat (site.take t)+nat (b.take t)=nat (a.take t)+4294967296^t*borrow→mr.ai a b borrow t site (af (words (nat a-nat b))):=by
  intro j
  induction j with
  |zero =>
   intro t borrow site hj ht hs hc hinv;have Ap:t=a.length:=by omega
   have Kf:nat site=nat a-nat b:=by
    subst Ap;rw[aT (by omega),aT (l:=a) (by omega)] at hinv;have h1:=eC a;have h2:=eC site;rw[hs] at h2;have h3:nat (b.take a.length)=nat b:=by
     by_cases hl:b.length≤a.length
     ·exact aT hl
     ·have h4:=km b a.length (by omega);have h5:nat (b.drop a.length)=0:=by
       refine ah9 fun hp => ?_
       have:=aga (4294967296^a.length) hp;omega
      rw[h5] at h4;omega
    have Lm:borrow=0:=by
     refine ah9 fun hp => ?_
     have:=aga (4294967296^a.length) hp;omega
    subst Lm;omega
   have:=mr.c9 a b borrow t site (words (nat site)) (by omega) (by omega) (trim site (by omega));rwa[Kf] at this
  |succ j ih =>
   intro t borrow site hj ht hs hc hinv;obtain⟨v,hv⟩:∃v,a[t]? = some v:=⟨_,afO (by omega)⟩;have h1:=ju v;have h2:=nV b t;have hz:∃(d d1 x nb:Nat),((v.toNat:Nat)-(wd b t:Nat):Int)%18446744073709551616=(d:Int)∧((d:Nat)-(borrow:Nat):Int)%18446744073709551616=(d1:Int)∧d1%4294967296=x∧d1/2^min 63 64=nb∧nb≤1∧x<4294967296∧x+wd b t+borrow=v.toNat+4294967296*nb:=by
    refine⟨(((v.toNat:Nat)-(wd b t:Nat):Int)%18446744073709551616).toNat,((((v.toNat:Nat)-(wd b t:Nat):Int)%18446744073709551616-borrow)%18446744073709551616).toNat,_,_,by omega,by omega,rfl,rfl,?_⟩;have e:(2:Nat)^min 63 64=9223372036854775808:=by decide
    rw[e];generalize wd b t=q at *;generalize v.toNat=p at *;by_cases Ro:q+borrow≤p
    ·have e1:(((p:Int)-(q:Int))%18446744073709551616-borrow)%18446744073709551616=(p:Int)-q-borrow:=by omega
     rw[e1];omega
    ·have e1:(((p:Int)-(q:Int))%18446744073709551616-borrow)%18446744073709551616=(p:Int)-q-borrow+18446744073709551616:=by omega
     rw[e1];omega
   obtain⟨d,d1,x,nb,g1,g2,g3,g4,g5,g6,g7⟩:=hz;obtain⟨w,hw⟩:=iw x g6;refine mr.l10 a b borrow t site v _ d d1 w nb (by omega) hv (word b t) g1 g2 (by omega) (by omega) g4 (by omega) ?_;refine ih (t+1) nb (site.set t w) (by omega) (by omega) (by simpa using hs) g5 ?_;rw[gL (by omega),bL hv,eb b t,hw,agb,agr];have h6:4294967296^t*x+4294967296^t*wd b t+4294967296^t*borrow=4294967296^t*v.toNat+4294967296^t*(4294967296*nb):=by rw[←agl,←agl,←agl,g7]
   omega
 exact mr.e0 a b (by omega) (loop _ 0 0 _ rfl (by omega) (by simp) (by omega) (by simp[nat]))
theorem xE{p q:Nat}(hp:p<4294967296)(hq:q<4294967296):p*q≤18446744065119617025:=by have:=agx (show p≤4294967295 by omega) (show q≤4294967295 by omega);omega
theorem times(a b:Words)(ha:a.length≤2199023255552)(hb:b.length≤2199023255552):Cp 108 [af a,af b] (af (words (nat a*nat b))):=by
 have inner:∀(i:Nat) (v:UInt32) (r:PV),i<a.length→(∀site:Words,site.length=a.length+b.length→nat site=nat (a.take i)*nat b+4294967296^i*(v.toNat*nat b)→(∀q,i+1+b.length≤q→q<site.length→wd site q=0)→fz.ai b a (i+1) site r) →
   ∀(j k carry:Nat) (site:Words),b.length-k=j→k≤b.length→site.length=a.length+b.length→carry<4294967296→(∀q,i+b.length≤q→q<site.length→wd site q=0) →
   nat site+4294967296^(i+k)*carry=nat (a.take i)*nat b+4294967296^i*(v.toNat*nat (b.take k))→fz.bD b a i v carry i k site r:=by
  intro i v r hi JE j
  induction j with
  |zero =>
   intro k carry site hj hk hs hc hz hinv;have hke:k=b.length:=by omega
   subst hke;obtain⟨w,hw⟩:=iw carry hc;refine fz.FM b a i v carry i b.length site w (by omega) (by omega) (by omega) (by omega) (by omega) (by omega) (JE _ (by simpa using hs) ?_ ?_)
   ·obtain⟨u,hu⟩:∃u,site[i+b.length]? = some u:=⟨_,afO (by omega)⟩;have h0:=hz (i+b.length) (by omega) (by omega);rw[jK hu] at h0;have h1:=qx site (i+b.length) w u hu;rw[h0,hw] at h1;rw[aT (l:=b) (by omega)] at hinv;omega
   ·intro q Wg Ed;rw[aip] at Ed;have:=hz q (by omega) Ed;unfold wd at this ⊢;rw[ah1 (by omega)];exact this
  |succ j ih =>
   intro k carry site hj hk hs hc hz hinv;obtain⟨u,hu⟩:∃u,b[k]? = some u:=⟨_,afO (by omega)⟩;obtain⟨x,hx⟩:∃x,site[i+k]? = some x:=⟨_,afO (by omega)⟩;have h1:=xE (ju v) (ju u);have h2:=ju x;generalize hp:v.toNat*u.toNat=p at *;obtain⟨w,hw⟩:=iw ((carry+(p+x.toNat))%4294967296) (by omega);have e:(2:Nat)^min 32 64=4294967296:=by decide
   refine fz.BZ b a i v carry i k site u p x (p+x.toNat) (carry+(p+x.toNat)) w ((carry+(p+x.toNat))/4294967296) (by omega) hu (by rw[hp];omega) (by omega) (by omega) hx (by omega) (by omega) hw.symm (by omega) (by rw[e]) (by omega) ?_;refine ih (k+1) _ (site.set (i+k) w) (by omega) (by omega) (by simpa using hs) (by omega) ?_ ?_
   ·intro q Wg Ed;rw[aip] at Ed;have:=hz q Wg Ed;unfold wd at this ⊢;rw[ah1 (by omega)];exact this
   ·have g1:=qx site (i+k) w x hx;rw[hw] at g1;rw[bL hu,show i+(k+1)=i+k+1 from rfl,agb,agr];have g2:4294967296^(i+k)*((carry+(p+x.toNat))%4294967296)+4294967296^(i+k)*(4294967296*((carry+(p+x.toNat))/4294967296))=4294967296^(i+k)*carry+4294967296^(i+k)*p+4294967296^(i+k)*x.toNat:=by
     rw[←agl,←agl,←agl];congr 1;omega
    have g3:4294967296^i*(v.toNat*(nat (b.take k)+4294967296^k*u.toNat))=4294967296^i*(v.toNat*nat (b.take k))+4294967296^(i+k)*p:=by
     rw[←hp,ahG,agl,agl]
     congr 1
     rw[agr];congr 1;rw[aiK]
    omega
 have loop:∀(j t:Nat) (site:Words),a.length-t=j→t≤a.length→site.length=a.length+b.length→nat site=nat (a.take t)*nat b→(∀q,t+b.length≤q→q<site.length→wd site q=0) →
   fz.ai b a t site (af (words (nat a*nat b))):=by
  intro j
  induction j with
  |zero =>intro t site hj ht hs hinv _;rw[aT (by omega)] at hinv;have:=fz.c9 b a t site (words (nat site)) (by omega) (by omega) (trim site (by omega));rwa[hinv] at this
  |succ j ih =>
   intro t site hj ht hs hinv hz;obtain⟨v,hv⟩:∃v,a[t]? = some v:=⟨_,afO (by omega)⟩;refine fz.l10 b a t site v (by omega) hv ?_;refine inner t v _ (by omega) (fun O7 NY WO QK => ?_) _ 0 0 site rfl (by omega) hs (by omega) hz ?_
   ·refine ih (t+1) O7 (by omega) (by omega) NY ?_ QK;rw[WO,bL hv,agF,agr]
   ·simp[nat,hinv]
 refine fz.e0 a b (by omega) (by omega) (loop _ 0 _ rfl (by omega) (by simp) (by simp[nat,nr]) ?_);intro q _ hq;unfold wd;rw[ahk];split
 ·rename_i w h;split at h
  ·injection h with h;subst h;rfl
  ·cases h
 ·rfl
theorem F1{x y:Nat}(hx:x<4294967296)(hy:y<4294967296):((x*4294967296)%18446744073709551616) ||| (y%18446744073709551616)=x*4294967296+y:=by rw[agu (by omega),agu (by omega),agR];exact(ahQ (i:=32) hy x).symm
theorem short(a:Words)(b:UInt32)(ha:a.length≤2199023255552)(hb:b.toNat≠0):Cp 143 [af a,vW b] (.aF [af (words (nat a/b.toNat)),vW (UInt32.ofNat (nat a%b.toNat))]):=by
 have Ez:=ju b;have loop:∀(n rest:Nat) (site:Words),n≤a.length→site.length=a.length→rest<b.toNat→nat (a.drop n)=nat (site.drop n)*b.toNat+rest →
   kO.ai a b rest ((n:Int)-1) site (.aF [af (words (nat a/b.toNat)),vW (UInt32.ofNat (nat a%b.toNat))]):=by
  intro n
  induction n with
  |zero =>
   intro rest site _ hs hr hinv;simp only[List.drop_zero] at hinv;have h1:nat a/b.toNat=nat site:=by rw[hinv,agR,ajk (by omega),ai7 hr,ahw]
   have h2:nat a%b.toNat=rest:=by rw[hinv,agR,ajI,agu hr]
   have hw:rest%4294967296=(UInt32.ofNat rest).toNat:=(uB rest).symm;rw[h1,h2];exact kO.c9 a b rest _ site (words (nat site)) _ (by omega) hs.symm (trim site (by omega)) hw
  |succ n ih =>
   intro rest site hn hs hr hinv;obtain⟨v,hv⟩:∃v,a[n]? = some v:=⟨_,afO (by omega)⟩;have Bj:=ju v;have e:(2:Nat)^min 32 64=4294967296:=by decide
   have hq:(rest*4294967296+v.toNat)/b.toNat<4294967296:=by rw[ai1 (by omega)];have:=afU 4294967296 (show rest+1≤b.toNat by omega);rw[agF] at this;rw[agR 4294967296];omega
   obtain⟨w,hw⟩:=iw _ hq;refine kO.l10 a b rest _ site _ n v (rest*4294967296+v.toNat) ((rest*4294967296+v.toNat)/b.toNat) w n ((rest*4294967296+v.toNat)%b.toNat) (by omega) rfl (by omega) hv ?_ hb (by omega) (by omega) (by omega) (by omega) (by omega) rfl (by unfold az;omega) ?_
   ·rw[e,agu (show rest*4294967296<18446744073709551616 by omega)];exact(by have:=F1 (show rest<4294967296 by omega) Bj;rw[agu (show rest*4294967296<18446744073709551616 by omega)] at this;rw[agu (show rest*4294967296<18446744073709551616 by omega)];exact this)
   ·rw[show ((n+1:Nat):Int)-1-1=(n:Int)-1 from by omega];refine ih _ (site.set n w) (by omega) (by simpa using hs) (ahy _ (by omega)) ?_;rw[rn hv,rn (l:=site.set n w) (v:=w) (by rw[aiy (by omega)]),List.drop_set_of_lt (by omega),hinv,hw];have h5:=ahA (rest*4294967296+v.toNat) b.toNat;generalize (rest*4294967296+v.toNat)/b.toNat=q at *;generalize (rest*4294967296+v.toNat)%b.toNat=m at *;generalize nat (site.drop (n+1))=S at *;generalize b.toNat=B at *;rw[agF,agl,agR q B];rw[←agr];omega
 have:=kO.e0 a b (r:=_) (by omega) (by unfold az;omega) (loop a.length 0 _ (afY _) (by simp) (by omega) (by rw[List.drop_of_length_le (Nat.le_refl _),List.drop_of_length_le (by simp)];simp[nat]));exact this
end cF
def blen(n:Nat):Nat:=bif Nat.beq n 0 then 0 else Nat.log2 n+1
theorem RM{n k:Nat}(h1:2^k≤n)(h2:n<2^(k+1)):blen n=k+1:=by
 have h0:n≠0:=by have:=agL k;omega
 have hb:Nat.beq n 0=false:=by
  cases hb:Nat.beq n 0 with
  |true=>exact absurd (ag0 hb) h0
  |false=>rfl
 unfold blen;rw[hb,agf]
 congr 1
 have g1:=(Nat.le_log2 h0).2 h1;have g2:=(Nat.log2_lt h0).2 h2;omega
theorem uD:blen 0=0:=rfl
theorem uE{n:Nat}(h:n≠0):∃k,blen n=k+1∧2^k≤n∧n<2^(k+1):=by
 have hb:Nat.beq n 0=false:=by
  cases hb:Nat.beq n 0 with
  |true=>exact absurd (ag0 hb) h
  |false=>rfl
 refine⟨Nat.log2 n,?_,Nat.log2_self_le h,Nat.lt_log2_self⟩;unfold blen;rw[hb,agf]
theorem tU{n k:Nat}(h:2^k≤n):blen n=k+blen (n/2^k):=by
 have hk:=agL k;have h0:n/2^k≠0:=by have:=Nat.div_pos h hk;omega
 obtain⟨m,h1,h2,h3⟩:=uE h0;have:=RM (n:=n) (k:=k+m) (by
  rw[ahG];have:=aga (2^k) h2;have:=Nat.mul_div_le n (2^k);omega) (by
  have h4:=(ai1 hk).1 h3;rw[←ahG] at h4;rw[show k+m+1=m+1+k from by omega];exact h4)
 omega
theorem sC{n k:Nat}(h:n<2^k):blen n≤k:=by
 by_cases h0:n=0
 ·subst h0;simp[uD]
 ·obtain⟨m,h1,h2,_⟩:=uE h0;have:=(Nat.pow_lt_pow_iff_right (a:=2) (by omega)).1 (ahg h2 h);omega
theorem RN(n:Nat):n<2^blen n:=by
 by_cases h0:n=0
 ·subst h0;simp[uD]
 ·obtain⟨m,h1,_,h3⟩:=uE h0;rw[h1];exact h3
namespace S9
def tbl:ByteArray:=(ByteArray.mk #[0,1,2,2,3,3,3,3,4,4,4,4,4,4,4,4,5,5,5,5,5,5,5,5,5,5,5,5,5,5,5,5,6,6,6,6,6,6,6,6,6,6,6,6,6,6,6,6,6,6,6,6,6,6,6,6,6,6,6,6,6,6,6,6,7,7,7,7,7,7,7,7,7,7,7,7,7,7,7,7,7,7,7,7,7,7,7,7,7,7,7,7,7,7,7,7,7,7,7,7,7,7,7,7,7,7,7,7,7,7,7,7,7,7,7,7,7,7,7,7,7,7,7,7,7,7,7,7,8,8,8,8,8,8,8,8,8,8,8,8,8,8,8,8,8,8,8,8,8,8,8,8,8,8,8,8,8,8,8,8,8,8,8,8,8,8,8,8,8,8,8,8,8,8,8,8,8,8,8,8,8,8,8,8,8,8,8,8,8,8,8,8,8,8,8,8,8,8,8,8,8,8,8,8,8,8,8,8,8,8,8,8,8,8,8,8,8,8,8,8,8,8,8,8,8,8,8,8,8,8,8,8,8,8,8,8,8,8,8,8,8,8,8,8,8,8,8,8,8,8,8,8,8,8,8,8])
theorem RO:(List.range 256).all (fun m=>((tbl.data.toList[m]?).map fun b=>(b.toNat:Int))==some (blen m:Int))=true:=by decide +kernel
theorem F4{m:Nat}(h:m<256):((tbl.data.toList[m]?).map fun b=>(b.toNat:Int))=some (blen m:Int):=by have:=RO;rw[agy] at this;simpa using this m (by simpa using h)
theorem Xd(x:UInt32):Cp 238 [vW x] (vI (blen x.toNat)):=by
 have hx:=ju x;have e16:(2:Nat)^min 16 32=65536:=by decide
 have e8:(2:Nat)^min 8 32=256:=by decide
 by_cases h1:65536≤x.toNat
 ·obtain⟨z,hz⟩:=iw (x.toNat/65536) (by omega);have b1:=tU (n:=x.toNat) (k:=16) h1;rw[show (2:Nat)^16=65536 from rfl] at b1;by_cases h2:256≤x.toNat/65536
  ·obtain⟨z1,H7⟩:=iw (x.toNat/65536/256) (by omega);have b2:=tU (n:=x.toNat/65536) (k:=8) h2;rw[show (2:Nat)^8=256 from rfl] at b2;have b3:=sC (n:=x.toNat/65536/256) (k:=8) (by rw[show (2:Nat)^8=256 from rfl];omega);have:=jo.e0 x z z1 (x.toNat/65536/256) (blen (x.toNat/65536/256)) h1 (by rw[e16,hz]) (by omega) (by rw[e8,H7,hz]) (by omega) (F4 (by omega)) (by omega) (by omega);rw[b1,b2,←ajf];exact this
  ·have b3:=sC (n:=x.toNat/65536) (k:=8) (by rw[show (2:Nat)^8=256 from rfl];omega);have:=jo.e1 x z (x.toNat/65536) (blen (x.toNat/65536)) h1 (by rw[e16,hz]) (by omega) (by omega) (F4 (by omega)) (by omega) (by omega);rw[b1];exact this
 ·by_cases h2:256≤x.toNat
  ·obtain⟨z,hz⟩:=iw (x.toNat/256) (by omega);have b1:=tU (n:=x.toNat) (k:=8) h2;rw[show (2:Nat)^8=256 from rfl] at b1;have b3:=sC (n:=x.toNat/256) (k:=8) (by rw[show (2:Nat)^8=256 from rfl];omega);have:=jo.e2 x z (x.toNat/256) (blen (x.toNat/256)) (by omega) h2 (by rw[e8,hz]) (by omega) (F4 (by omega)) (by omega) (by omega);rw[b1];exact this
  ·have b3:=sC (n:=x.toNat) (k:=8) (by rw[show (2:Nat)^8=256 from rfl];omega);have:=jo.e3 x x.toNat (blen x.toNat) (by omega) (by omega) (by omega) (F4 (by omega)) (by omega) (by omega);rw[agQ] at this;exact this
theorem Cn(x:UInt32):Cp 218 [vW x] (vI ((32-blen x.toNat:Nat):Int)):=by have h:=sC (n:=x.toNat) (k:=32) (ju x);have:=kP.e0 x _ (Xd x) (by unfold az;omega);rw[show ((32-blen x.toNat:Nat):Int)=32-(blen x.toNat:Int) from by omega];exact this
end S9
theorem EB{s:Nat}(hs:s≤32):2^s*2^(32-s)=4294967296:=by rw[←ahG,show s+(32-s)=32 from by omega]
namespace cF
theorem RP{v1 v:Nat}{s:Nat}(hs:s<32)(h1:v1<2^s)(hv:v<4294967296) :
  ∃y w z x,(v*2^min s 64)%18446744073709551616=y∧y%4294967296=w∧(v1%4294967296) ||| (w%4294967296)=z∧z<4294967296∧y/4294967296=x∧x<2^s∧w<4294967296∧z+4294967296*x=v1+v*2^s:=by
 have e:=EB (show s≤32 by omega);have hp:=agL s;have hle:2^s≤2147483648:=by have:=ag6 (n:=2) (by omega) (show s≤31 by omega);simpa using this
 have Oi:min s 64=s:=by omega
 rw[Oi];have hb:v*2^s<18446744073709551616:=by have:=agx (show v≤4294967295 by omega) hle;omega
 rw[agu hb];generalize hP:2^s=p at *;generalize hQ:2^(32-s)=q at *;have hw:(v*p)%4294967296=p*(v%q):=by rw[←e,agR v p,Nat.mul_mod_mul_left]
 have hx:(v*p)/4294967296=v/q:=by rw[←e,agR v p,Nat.mul_div_mul_left _ _ hp]
 have hq:0<q:=by rw[←hQ];exact agL _
 have hm:=ahy v hq;have bH:p*(v%q)+p≤4294967296:=by have:=aga p (show v%q+1≤q by omega);rw[agl,e] at this;omega
 have RQ:v1 ||| p*(v%q)=p*(v%q)+v1:=by rw[Nat.or_comm];subst hP;exact(ahQ h1 (v%q)).symm
 refine⟨_,_,_,_,rfl,rfl,rfl,?_,rfl,?_,by omega,?_⟩
 ·rw[hw,agu (show v1<4294967296 by omega),agu (show p*(v%q)<4294967296 by omega),RQ];omega
 ·rw[hx,ai1 hq,e];exact hv
 ·rw[hw,agu (show v1<4294967296 by omega),agu (show p*(v%q)<4294967296 by omega),RQ,hx];have:=ahA v q;have h3:p*v=p*(q*(v/q))+p*(v%q):=by rw[←agl,this]
  rw[←agr,e] at h3;rw[agR v p];omega
def RR(a:Words)(s t:Nat)(site:Words):Prop:=site.length=a.length+1∧nat site=nat (a.take t)*2^s∧(∀q,t<q→q<site.length→wd site q=0)∧wd site t<2^s
theorem RS{a:Words}{s t:Nat}{site:Words}{v v1 z x:UInt32}(hi:RR a s t site)(ht:t<a.length)(hv:a[t]? = some v)(H8:site[t]? = some v1)(hx:x.toNat<2^s)(he:z.toNat+4294967296*x.toNat=v1.toNat+v.toNat*2^s) :
  RR a s (t+1) ((site.set t z).set (t+1) x):=by
 obtain⟨h1,h2,h3,h4⟩:=hi;refine⟨by simpa using h1,?_,fun q Wg Ed => ?_,?_⟩
 ·obtain⟨u,hu⟩:∃u,(site.set t z)[t+1]? = some u:=⟨_,afO (by simp;omega)⟩;have Q5:u.toNat=0:=by
   have:=h3 (t+1) (by omega) (by omega);rw[ah1 (by omega)] at hu;rw[jK hu] at this;exact this
  have g1:=qx site t z v1 H8;have g2:=qx (site.set t z) (t+1) x u hu;rw[Q5,ajJ,ahw,agb,agr] at g2;rw[bL hv,agF,←h2];have g3:4294967296^t*z.toNat+4294967296^t*(4294967296*x.toNat)=4294967296^t*v1.toNat+4294967296^t*v.toNat*2^s:=by rw[←agl,he,agl,agr]
  omega
 ·rw[aip,aip] at Ed;have:=h3 q (by omega) Ed;unfold wd at this ⊢;rw[ah1 (by omega),ah1 (by omega)];exact this
 ·rw[jK (v:=x) (by rw[aiy (by simp;omega)])];exact hx
theorem RT(a:Words)(s:Nat):RR a s 0 (List.replicate (a.length+1) (0:UInt32)):=by
 refine⟨by simp,by simp[nat,nr],fun q _ hq => ?_,?_⟩
 ·unfold wd;rw[ahk];rw[ahb] at hq;rw[ag9 hq];rfl
 ·unfold wd;rw[ahk,ag9 (by omega)];exact agL s
theorem up(a:Words)(s:Nat)(ha:a.length≤2199023255552)(hs:s<32):∃z:Words,z.length=a.length+1∧nat z=nat a*2^s∧Cp 219 [af a,vI (s:Int)] (af z) ∧
  au bp 219 [.pv (af a),.pv (vI (s:Int))] [] (.row 0 0 (a.length+1) 1) [(0,(.pure ((z:List UInt32).map ah).flatten))]:=by
 have loop:∀(j t:Nat) (site:Words),a.length-t=j→t≤a.length→RR a s t site →
   ∃z:Words,z.length=a.length+1∧nat z=nat a*2^s∧pf.ai (s:Int) a t site (af z)∧nQ.ai (s:Int) a t site [] (.row 0 0 (a.length+1) 1) [(0,(.pure ((z:List UInt32).map ah).flatten))]:=by
  intro j
  induction j with
  |zero =>intro t site hj ht hi;obtain⟨h1,h2,_,_⟩:=hi;rw[aT (by omega)] at h2;exact⟨site,h1,h2,pf.c9 _ a t site (by omega) h1.symm,by have h9:=nQ.c9 (s:Int) a t site (sin:=[]) rfl rfl (by omega);rw[agd (by omega)] at h9;exact h9⟩
  |succ j ih =>
   intro t site hj ht hi;obtain⟨v,hv⟩:∃v,a[t]? = some v:=⟨_,afO (by omega)⟩;obtain⟨v1,H8⟩:∃v1,site[t]? = some v1:=⟨_,afO (by have:=hi.1;omega)⟩;have aaw:v1.toNat<2^s:=by have:=hi.2.2.2;rw[jK H8] at this;exact this
   obtain⟨y,w,z,x,g1,g2,g3,g4,g5,g6,g7,g8⟩:=RP hs aaw (ju v);obtain⟨w',hw'⟩:=iw w g7;obtain⟨z',QK⟩:=iw z g4;have hp:=ag6 (n:=2) (by omega) (show s≤32 by omega);have hp:2^s≤4294967296:=hp;obtain⟨x',x6⟩:=iw x (by omega);have e:(2:Nat)^min 32 64=4294967296:=by decide
   have hlen:=hi.1;obtain⟨zz,q1,q2,q3,q4⟩:=ih (t+1) _ (by omega) (by omega) (RS hi (by omega) hv H8 (x:=x') (z:=z') (by omega) (by rw[QK,x6];exact g8));refine⟨zz,q1,q2,?_,?_⟩
   ·exact pf.l10 _ a t site v s y v1 w' z' x x' (by omega) hv rfl g1 (by omega) H8 (by omega) (by rw[hw'];omega) (by omega) (by omega) (by rw[e];exact g5) (by omega) (by omega) (by simp;omega) q3
   ·exact nQ.l10 _ a t site v s y v1 w' z' x x' rfl (by omega) hv rfl g1 (by omega) H8 (by omega) (by rw[hw'];omega) (by omega) (by omega) (by rw[e];exact g5) (by omega) (by omega) (by simp;omega) q4
 obtain⟨z,h1,h2,h3,h4⟩:=loop a.length 0 _ rfl (by omega) (RT a s);exact⟨z,h1,h2,pf.e0 a _ (by omega) (by omega) h3,nQ.e0 a _ (by omega) (by omega) h4⟩
theorem RU{x y:Nat}(hx:x<4294967296)(hy:y<4294967296):(x%18446744073709551616) ||| ((y*4294967296)%18446744073709551616%18446744073709551616)=y*4294967296+x:=by rw[Nat.or_comm,ajl];exact F1 hy hx
theorem jY(a:Words)(t:Nat):nat (a.drop t)=wd a t+4294967296*nat (a.drop (t+1)):=by
 by_cases h:t<a.length
 ·have hv:=afO h;rw[rn hv,jK hv]
 ·rw[agv (by omega),agv (by omega),xD (by omega)];rfl
theorem tV(a:Words)(t:Nat)(ht:t≤a.length):nat a/4294967296^t=nat (a.drop t):=by have h1:=eC (a.take t);rw[agh,ah0 ht] at h1;rw[km a t ht,aiW,ajk (by omega),ai7 h1,ahw]
theorem down(a:Words)(s:Nat)(ha:a.length≤2199023255552)(hs:s<32):Cp 222 [af a,vI (s:Int)] (af (words (nat a/2^s))):=by
 have hp:=agL s;have e2:=EB (show s≤32 by omega);have loop:∀(j t:Nat) (site:Words),a.length-t=j→t≤a.length→site.length=a.length→nat (site.take t)=(nat a/2^s)%4294967296^t→mv.ai a (s:Int) t site (af (words (nat a/2^s))):=by
  intro j
  induction j with
  |zero =>
   intro t site hj ht hl hinv;have Ap:t=a.length:=by omega
   subst Ap;rw[aT (by omega),agu (ahg (ahe _ _) (eC a))] at hinv;have:=mv.c9 a (s:Int) a.length site (words (nat site)) (by omega) hl.symm (trim site (by omega));rwa[hinv] at this
  |succ j ih =>
   intro t site hj ht hl hinv;obtain⟨v,hv⟩:∃v,a[t]? = some v:=⟨_,afO (by omega)⟩;have h1:=ju v;have h2:=nV a (t+1);have e:(2:Nat)^min 32 64=4294967296:=by decide
   obtain⟨w,hw⟩:=iw ((wd a (t+1)*4294967296+v.toNat)/2^s%4294967296) (ahy _ (by omega));refine mv.l10 a (s:Int) t site v (wd a (t+1)) _ (wd a (t+1)*4294967296+v.toNat) s ((wd a (t+1)*4294967296+v.toNat)/2^s) w (by omega) hv (by omega) (word a (t+1)) rfl (by rw[e];exact RU h1 h2) rfl (by rw[show min s 64=s from by omega]) hw.symm (by omega) ?_;refine ih (t+1) (site.set t w) (by omega) (by omega) (by simpa using hl) ?_;rw[gL (by omega),hinv,hw];have g1:nat a/2^s/4294967296^t=nat (a.drop t)/2^s:=by rw[ahU,agR,←ahU,tV a t (by omega)]
   have g2:nat (a.drop t)/2^s%4294967296=(wd a (t+1)*4294967296+v.toNat)/2^s%4294967296:=by
    rw[jY a t,jY a (t+1),jK hv];generalize nat (a.drop (t+1+1))=r;generalize wd a (t+1)=y;generalize v.toNat=x;generalize hP:2^s=p at *;generalize hQ:2^(32-s)=q at *;have:x+4294967296*(y+4294967296*r)=p*(4294967296*(q*r))+(y*4294967296+x):=by
     have:p*(4294967296*(q*r))=4294967296*(4294967296*r):=by rw[aiK p 4294967296,←agr p q r,e2]
     omega
    rw[this,ajk hp,ajI]
   have g3:=Nat.mod_mul (a:=4294967296^t) (b:=4294967296) (x:=nat a/2^s);rw[agb,g3,g1,g2]
 exact mv.e0 a (s:Int) (by omega) (loop _ 0 _ rfl (by omega) (by simp) (by simp[nat,Nat.mod_one]))
theorem uF{α:Type}(A U C:List α)(t:Nat)(x:α)(ht:t<U.length):(A++(U++C)).set (A.length+t) x=A++(U.set t x++C):=by rw[List.set_append_right _ _ (by omega),show A.length+t-A.length=t from by omega,List.set_append_left _ _ ht]
theorem gY{α:Type}(A U C:List α)(t:Nat)(x:α)(h:U[t]? = some x):(A++(U++C))[A.length+t]? = some x:=by have ht:=(afQ.1 h).1;rw[aha (by omega),show A.length+t-A.length=t from by omega,ahz ht];exact h
abbrev pK(A U C:Words):SC := .pure (((A++(U++C):List UInt32)).map ah).flatten
theorem remove(A U C v:Words)(n off len:Nat)(ho:off=A.length)(hlen:len=U.length)(hU:U.length≤2199023255553)(hn:n<4294967296)(hb:n*nat v<4294967296^U.length)(Bj:v.length≤U.length) :
  ∃(U':Words) (bo:Bool),U'.length=U.length∧((bo=false→nat U'+n*nat v=nat U)∧(bo=true→nat U'+n*nat v=nat U+4294967296^U.length)) ∧
   au bp 220 [.row 100000 off len 1,.pv (af v),.pv (vU n)] [(100000,pK A U C)] (.pv (vB bo)) [(100000,pK A U' C)]:=by
 subst ho;subst hlen;have loop:∀(j t carry borrow:Nat) (U0:Words),U.length-t=j→t≤U.length→U0.length=U.length→borrow≤1→carry<4294967296→4294967296^t*carry≤n*nat (v.take t)→(∀q,t≤q→U0[q]? = U[q]?) →
   nat (U0.take t)+n*nat (v.take t)=nat (U.take t)+4294967296^t*(carry+borrow) →
   ∃(U':Words) (bo:Bool),U'.length=U.length∧((bo=false→nat U'+n*nat v=nat U)∧(bo=true→nat U'+n*nat v=nat U+4294967296^U.length)) ∧
    jT.ai A.length U.length v n carry borrow t (A++(U0++C)) [(100000,pK A U C)] (.pv (vB bo)) [(100000,pK A U' C)]:=by
  intro j
  induction j with
  |zero =>
   intro t carry borrow U0 hj ht hl Xe Ta rH _ hinv;have Ap:t=U.length:=by omega
   subst Ap;rw[aT (l:=v) Bj] at hinv rH;rw[aT (by omega),aT (l:=U) (by omega)] at hinv;have zS:carry=0:=by
    refine ah9 fun hp => ?_
    have:=aga (4294967296^U.length) hp;omega
   subst zS;refine⟨U0,decide ((borrow:Int)=1),hl,?_,?_⟩
   ·by_cases h1:borrow=1
    ·subst h1;exact⟨fun h=>by simp at h,fun _=>by rw[hinv];simp⟩
    ·have h0:borrow=0:=by omega
     subst h0;exact⟨fun _=>by rw[hinv];simp,fun h=>by simp at h⟩
   ·have:=jT.c9 A.length U.length v n 0 borrow U.length (A++(U0++C)) (sin:=[(100000,pK A U C)]) rfl rfl (by omega);have e:((borrow:Int)==1)=decide ((borrow:Int)=1):=by
     by_cases h1:borrow=1
     ·subst h1;rfl
     ·have h0:borrow=0:=by omega
      subst h0;rfl
    rw[e] at this;exact this
  |succ j ih =>
   intro t carry borrow U0 hj ht hl Xe Ta rH ij hinv;obtain⟨x,hx⟩:∃x,U[t]? = some x:=⟨_,afO (by omega)⟩;have Ou:U0[t]? = some x:=by rw[ij t (afY t)];exact hx
   have h1:=nV v t;have h2:=ju x;have h3:=xE hn h1;have e:(2:Nat)^min 32 64=4294967296:=by decide
   generalize hp:n*wd v t=p at *;obtain⟨lo,HD⟩:=iw ((carry+p)%4294967296) (by omega);have hz:∃(d d1 y nb:Nat),((x.toNat:Nat)-(lo.toNat:Nat):Int)%18446744073709551616=(d:Int)∧((d:Nat)-(borrow:Nat):Int)%18446744073709551616=(d1:Int)∧d1%4294967296=y∧d1/2^min 63 64=nb∧nb≤1∧y<4294967296∧y+lo.toNat+borrow=x.toNat+4294967296*nb:=by
    have UX:=ju lo;refine⟨(((x.toNat:Nat)-(lo.toNat:Nat):Int)%18446744073709551616).toNat,((((x.toNat:Nat)-(lo.toNat:Nat):Int)%18446744073709551616-borrow)%18446744073709551616).toNat,_,_,by omega,by omega,rfl,rfl,?_⟩;have e:(2:Nat)^min 63 64=9223372036854775808:=by decide
    rw[e];generalize lo.toNat=q at *;generalize x.toNat=r at *;by_cases Ro:q+borrow≤r
    ·have e1:(((r:Int)-(q:Int))%18446744073709551616-borrow)%18446744073709551616=(r:Int)-q-borrow:=by omega
     rw[e1];omega
    ·have e1:(((r:Int)-(q:Int))%18446744073709551616-borrow)%18446744073709551616=(r:Int)-q-borrow+18446744073709551616:=by omega
     rw[e1];omega
   obtain⟨d,d1,y,nb,g1,g2,g3,g4,g5,g6,g7⟩:=hz;obtain⟨w,hw⟩:=iw y g6;have Q8:=uF A U0 C t w (by omega);have hmul:n*nat (v.take (t+1))=n*nat (v.take t)+4294967296^t*p:=by rw[eb v t,agl,←hp,aiK]
   have Je:=ahA (carry+p) 4294967296;have hA:4294967296^t*carry+4294967296^t*p=4294967296^t*(4294967296*((carry+p)/4294967296))+4294967296^t*lo.toNat:=by rw[HD,←agl,←agl,Je]
   have hB:4294967296^t*y+4294967296^t*lo.toNat+4294967296^t*borrow=4294967296^t*x.toNat+4294967296^t*(4294967296*nb):=by rw[←agl,←agl,←agl,g7]
   obtain⟨U',bo,q1,q2,q3⟩:=ih (t+1) ((carry+p)/4294967296) nb (U0.set t w) (by omega) (by omega) (by simpa using hl) g5 (by omega)
    (by rw[hmul,agb,agr];omega)
    (fun q hq=>by rw[ah1 (by omega)];exact ij q (by omega))
    (by rw[gL (by omega),hw,hmul,bL hx,agb,agr,agl 4294967296,agl (4294967296^t)];rw[agl (4294967296^t) carry borrow] at hinv;omega)
   refine⟨U',bo,q1,q2,?_⟩;refine jT.l10 A.length U.length v n carry borrow t _ (wd v t) p (carry+p) x lo d d1 w nb ((carry+p)/4294967296) rfl (by omega) (word v t) (by rw[hp];omega) (by omega) (gY A U0 C t x Ou) HD.symm g1 g2 (by omega) (by simp;omega) g4 (by rw[e]) (by omega) ?_;rw[Q8];exact q3
 obtain⟨U',bo,h1,h2,h3⟩:=loop _ 0 0 0 U rfl (by omega) rfl (by omega) (by omega) (by simp) (fun _ _=>rfl) (by simp[nat]);exact⟨U',bo,h1,h2,jT.e0 (A++(U++C)) A.length U.length v n h3⟩
theorem back(A U C v:Words)(off len:Nat)(ho:off=A.length)(hlen:len=U.length)(hU:U.length≤2199023255553)(Bj:v.length≤U.length) :
  ∃(U':Words) (ca:Nat),U'.length=U.length∧ca≤1∧nat U'+4294967296^U.length*ca=nat U+nat v ∧
   au bp 221 [.row 100000 off len 1,.pv (af v)] [(100000,pK A U C)] (.pv (.aF [])) [(100000,pK A U' C)]:=by
 subst ho;subst hlen;have loop:∀(j t carry:Nat) (U0:Words),U.length-t=j→t≤U.length→U0.length=U.length→carry≤1→(∀q,t≤q→U0[q]? = U[q]?) →
   nat (U0.take t)+4294967296^t*carry=nat (U.take t)+nat (v.take t) →
   ∃(U':Words) (ca:Nat),U'.length=U.length∧ca≤1∧nat U'+4294967296^U.length*ca=nat U+nat v ∧
    mu.ai A.length U.length v carry t (A++(U0++C)) [(100000,pK A U C)] (.pv (.aF [])) [(100000,pK A U' C)]:=by
  intro j
  induction j with
  |zero =>
   intro t carry U0 hj ht hl Ta _ hinv;have Ap:t=U.length:=by omega
   subst Ap;rw[aT (l:=v) Bj] at hinv;rw[aT (by omega),aT (l:=U) (by omega)] at hinv;exact⟨U0,carry,hl,Ta,hinv,mu.c9 A.length U.length v carry U.length (A++(U0++C)) (sin:=[(100000,pK A U C)]) rfl rfl (by omega)⟩
  |succ j ih =>
   intro t carry U0 hj ht hl Ta ij hinv;obtain⟨x,hx⟩:∃x,U[t]? = some x:=⟨_,afO (by omega)⟩;have Ou:U0[t]? = some x:=by rw[ij t (afY t)];exact hx
   have h1:=nV v t;have h2:=ju x;have e:(2:Nat)^min 32 64=4294967296:=by decide
   obtain⟨w,hw⟩:=iw ((carry+(x.toNat+wd v t))%4294967296) (by omega);have Je:=ahA (carry+(x.toNat+wd v t)) 4294967296;have hA:4294967296^t*carry+4294967296^t*x.toNat+4294967296^t*wd v t=4294967296^t*(4294967296*((carry+(x.toNat+wd v t))/4294967296))+4294967296^t*w.toNat:=by rw[hw,←agl,←agl,←agl,Je];congr 1;omega
   obtain⟨U',ca,q1,q2,q3,q4⟩:=ih (t+1) ((carry+(x.toNat+wd v t))/4294967296) (U0.set t w) (by omega) (by omega) (by simpa using hl) (by omega)
    (fun q hq=>by rw[ah1 (by omega)];exact ij q (by omega))
    (by rw[gL (by omega),eb v t,bL hx,agb,agr];omega)
   refine⟨U',ca,q1,q2,q3,?_⟩;refine mu.l10 A.length U.length v carry t _ x (wd v t) (x.toNat+wd v t) (carry+(x.toNat+wd v t)) w _ rfl (by omega) (gY A U0 C t x Ou) (word v t) (by omega) (by omega) hw.symm (by simp;omega) (by rw[e]) (by omega) ?_;rw[uF A U0 C t w (by omega)];exact q4
 obtain⟨U',ca,h1,h2,h3,h4⟩:=loop _ 0 0 U rfl (by omega) rfl (by omega) (fun _ _=>rfl) (by simp[nat]);exact⟨U',ca,h1,h2,h3,mu.e0 (A++(U++C)) A.length U.length v h4⟩
end cF
set_option linter.unusedVariables false
section
variable {V R W top next hi lo head r0 bO rest:Nat}
structure Kn (V R W top next head lo r0:Nat):Prop where
 v1:(top*4294967296+next)*W≤V
 v2:V<(top*4294967296+next+1)*W
 r:R=(head*4294967296+lo)*W+r0
 r0:r0<W
 lo:lo<4294967296
 next:next<4294967296
 top:0<top
 rv:R<V*4294967296
theorem Kn.rlt(h:Kn V R W top next head lo r0):R<(head*4294967296+lo+1)*W:=by have h1:=h.r;have h2:=h.r0;rw[agF _ 1,ahr];omega
theorem Kn.O8(h:Kn V R W top next head lo r0):0<V∧4294967296*W≤V:=by have h1:=h.v1;have h2:=h.r0;have h3:4294967296*W≤(top*4294967296+next)*W:=afU _ (by have:=h.top;omega);omega
theorem Kn.start(h:Kn V R W top next head lo r0):R/V≤head/top:=by
 have hv:=h.O8.1;rw[←Nat.lt_succ_iff,ai1 hv];have h1:head+1≤(head/top+1)*top:=by have:=Nat.lt_div_mul_add (a:=head) h.top;rw[agF,ahr];omega
 have h2:(head/top+1)*((top*4294967296+next)*W)≤(head/top+1)*V:=aga _ h.v1;have h3:(head*4294967296+lo+1)*W≤(head/top+1)*((top*4294967296+next)*W):=by rw[←agr];refine afU _ ?_;rw[agl,←agr];have:=afU 4294967296 h1;have:=h.lo;omega
 have:=h.rlt;show R<(head/top+1)*V;omega
theorem Kn.small(h:Kn V R W top next head lo r0):R/V<4294967296:=by rw[ai1 h.O8.1,agR];exact h.rv
theorem Kn.less(h:Kn V R W top next head lo r0)(hg:bO*top+rest=head)(hc:rest*4294967296+lo<bO*next):R/V<bO:=by
 rw[ai1 h.O8.1];have h2:bO*((top*4294967296+next)*W)≤bO*V:=aga _ h.v1;have h3:(head*4294967296+lo+1)*W≤bO*((top*4294967296+next)*W):=by rw[←agr];refine afU _ ?_;rw[agl,←agr,←hg,agF];omega
 have:=h.rlt;omega
theorem Kn.fits(h:Kn V R W top next head lo r0)(hg:bO*top+rest=head)(hr:4294967296≤rest):bO<4294967296:=by
 refine aiu fun DD => ?_
 have h1:4294967296*top≤bO*top:=afU _ DD;have h2:(head*4294967296)*W≤R:=by rw[h.r,agF];omega
 have h3:(4294967296*top+4294967296)*4294967296*W≤head*4294967296*W:=afU _ (afU _ (by omega));have h4:V*4294967296<(top*4294967296+next+1)*W*4294967296:=aiF h.v2 (by omega);have h5:(top*4294967296+next+1)*W*4294967296≤(4294967296*top+4294967296)*W*4294967296:=afU _ (afU _ (by have:=h.next;omega));have h6:(4294967296*top+4294967296)*W*4294967296=(4294967296*top+4294967296)*4294967296*W:=by rw[Nat.mul_right_comm]
 have:=h.rv;omega
theorem Kn.aax(h:Kn V R W top next head lo r0)(hg:bO*top+rest=head)(hl:bO<4294967296)(hc:4294967296≤rest∨bO*next≤rest*4294967296+lo):bO≤R/V+1:=by
 have hv:=h.O8.1;cases bO with
 |zero=>exact ago _
 |succ g =>
  refine Nat.succ_le_succ ?_;rw[Nat.le_div_iff_mul_le hv];have h0:(g+1)*V≤(g+1)*((top*4294967296+next+1)*W):=aga _ (aja h.v2);have h1:(g+1)*((top*4294967296+next+1)*W)=((g+1)*top*4294967296+(g+1)*next+(g+1))*W:=by rw[←agr,agl,agl,ai6,agr (g+1) top]
  have h2:=h.O8.2;have h3:(g+1)*V=g*V+V:=by rw[agF,ahr]
  have hr:(head*4294967296+lo)*W≤R:=by rw[h.r];omega
  rcases hc with hc|hc
  ·have h4:((g+1)*top*4294967296+(g+1)*next+(g+1))*W≤(head*4294967296+lo)*W:=by
    refine afU _ ?_;have h5:(g+1)*next+(g+1)≤(g+1)*4294967296:=by have:=aga (g+1) (show next+1≤4294967296 by have:=h.next;omega);rw[agl,ai6] at this;exact this
    rw[←hg,agF];omega
   omega
  ·have h4:((g+1)*top*4294967296+(g+1)*next+(g+1))*W≤(head*4294967296+lo+4294967296)*W:=by
    refine afU _ ?_;rw[←hg,agF];omega
   rw[agF _ 4294967296] at h4;omega
end
namespace cF
theorem RV(u:Words)(j n:Nat)(h:j+n≤u.length):nat (u.drop j)=nat ((u.drop j).take n)+4294967296^n*nat (u.drop (j+n)):=by have:=km (u.drop j) n (by simp;omega);rw[ajx] at this;exact this
theorem O9(U:Words)(n:Nat)(h:U.length=n+3){a b c:UInt32}(ha:U[n]? = some a)(hb:U[n+1]? = some b)(hc:U[n+2]? = some c) :
  nat U=((c.toNat*4294967296+b.toNat)*4294967296+a.toNat)*4294967296^n+nat (U.take n):=by
 have h1:=bL hc;have h2:=bL hb;have h3:=bL ha;rw[aT (by omega)] at h1;rw[h1,h2,h3];have e1:(4294967296:Nat)^(n+1)=4294967296^n*4294967296:=agb ..;have e2:(4294967296:Nat)^(n+2)=4294967296^n*4294967296*4294967296:=by rw[agb,e1]
 rw[e1,e2];generalize (4294967296:Nat)^n=P;grind
theorem Pa(U:Words)(n:Nat)(h:U.length=n+2){a b:UInt32}(ha:U[n]? = some a)(hb:U[n+1]? = some b) :
  nat U=(b.toNat*4294967296+a.toNat)*4294967296^n+nat (U.take n):=by
 have h2:=bL hb;have h3:=bL ha;rw[aT (by omega)] at h2;rw[h2,h3];have e1:(4294967296:Nat)^(n+1)=4294967296^n*4294967296:=agb ..;rw[e1];generalize (4294967296:Nat)^n=P;grind
structure Dv (a b zb v:Words) (v1 v2:UInt32) (s n m V N:Nat):Prop where
 hv:v=zb.take b.length
 F5:s<32
 BP:a.length≤2199023255551
 hm:a.length+1=m+(n+2)
 Bj:v.length=n+2
 DM:nat v=V
 Aq:V<4294967296^(n+2)
 RW:0<V
 H8:v[n+1]? = some v1
 EC:v[n]? = some v2
 Ln:V=(v1.toNat*4294967296+v2.toNat)*4294967296^n+nat (v.take n)
 QO:nat (v.take n)<4294967296^n
 H9:0<v1.toNat
 res:∀q r:Nat,N=q*V+r→r<V→nat a/nat b=q∧r/2^s=nat a%nat b
structure Pt (u U A C:Words) (n j R Q V:Nat):Prop where
 NK:U.length=n+3
 RX:A.length=j
 hu:u=A++(U++C)
 Ar:R=nat U
 hQ:R/V=Q
 UY:nat C=0
 hR:R=nat (u.drop j)
 hj:j+(n+3)≤u.length
 yg:u.length≤2199023255552
theorem Xf{g Q V R r P x:Nat}(Je:Q*V+r=R)(hx:x<P)(h2:x+g*V=R+P)(YQ:Q≤g)(YR:g≤Q+1):g=Q+1∧x+V=r+P:=by
 rcases Nat.lt_or_ge Q g with h5|h5
 ·have h6:g=Q+1:=by omega
  rw[h6,agF,ahr] at h2;exact⟨h6,by omega⟩
 ·have h6:g=Q:=by omega
  rw[h6] at h2;omega
theorem Xg{ca V r P x y:Nat}(h:y+P*ca=x+V)(hy:y<P)(h2:x+V=r+P)(hc:ca≤1):y=r:=by
 have Ta:ca=0∨ca=1:=by omega
 rcases Ta with rfl|rfl
 ·omega
 ·omega
theorem RY {a b zb v u U A C : Words} {v1 v2 : UInt32} {s n m V N j R Q : Nat} (dv : Dv a b zb v v1 v2 s n m V N) (pt : Pt u U A C n j R Q V) :
    ∀ bO : Nat, bO < 4294967296 → Q ≤ bO → bO ≤ Q + 1 → ∃ (U1 : Words) (bo : Bool) (U2 : Words), U1.length = n + 3 ∧
          au bp 220 [.row 100000 (0 + j * 1) (j + (n + 3) - j) 1, .pv (af (zb.take b.length)), .pv (vU bO)] [(100000, .pure ((u : List UInt32).map ah).flatten)] (.pv (vB bo)) [(100000, .pure (((A ++ (U1 ++ C) : List UInt32)).map ah).flatten)] ∧
          (bo = false → bO = Q ∧ nat U1 = R % V) ∧
          (bo = true → bO = Q + 1 ∧ 0 < bO ∧ U2.length = n + 3 ∧ nat U2 = R % V ∧
            au bp 221 [.row 100000 (0 + j * 1) (j + (n + 3) - j) 1, .pv (af (zb.take b.length))] [(100000, .pure (((A ++ (U1 ++ C) : List UInt32)).map ah).flatten)] (.pv (.aF [])) [(100000, .pure (((A ++ (U2 ++ C) : List UInt32)).map ah).flatten)]) := by
  obtain ⟨hv, F5, BP, hm, Bj, DM, Aq, RW, H8, EC, Ln, QO, H9, res⟩ := dv;obtain ⟨NK, RX, hu, Ar, hQ, UY, hR, hj, yg⟩ := pt;have Lp : (4294967296 : Nat) ^ (n + 3) = 4294967296 ^ (n + 2) * 4294967296 := agb ..;intro bO hg1 YQ YR;have Je := ahA R V;rw [hQ] at Je;have hml := ahy R RW;rw [agR] at Je;rw [← hv];obtain ⟨U1, bo, r1, ⟨r2f, YS⟩, r3⟩ := remove A U C v bO (0 + j * 1) (j + (n + 3) - j) (by omega) (by omega) (by omega) hg1 (by rw [DM, NK, Lp];have h5 := Nat.mul_lt_mul_of_pos_left Aq (show 0 < 4294967296 by omega);have h6 := afU V (aja hg1);rw [agR (4294967296 ^ (n + 2))]; omega) (by omega)
  rw [DM, ← Ar] at r2f YS;rw [NK] at YS;have hU1 := eC U1;rw [r1, NK] at hU1;obtain ⟨U2, ca, b1, b2, b3, b4⟩ := back A U1 C v (0 + j * 1) (j + (n + 3) - j) (by omega) (by omega) (by omega) (by omega);rw [DM, r1, NK] at b3;have hU2 := eC U2;rw [b1, r1, NK] at hU2;have hVP : V < 4294967296 ^ (n + 3) := by have := ag6 (n := 4294967296) (by omega) (show n + 2 ≤ n + 3 by omega);exact agA Aq this
  clear Lp Aq QO Ln res;generalize (4294967296 : Nat) ^ (n + 3) = P3 at YS hU1 b3 hU2 hVP;refine ⟨U1, bo, U2, by omega, by rw [show pK A U C = .pure ((u : List UInt32).map ah).flatten from by rw [hu]] at r3; exact r3, fun Xe => ?_, fun Xe => ?_⟩
  · have r2 := r2f Xe;have : bO = Q := by
      rcases Nat.lt_or_ge (Q) bO with h5 | h5
      · have h6 : bO = Q + 1 := by omega
        rw [h6, agF, ahr] at r2;omega
      · omega
    rw [this] at r2;exact ⟨this, by omega⟩
  · have r2 := YS Xe;obtain ⟨g1, g2⟩ := Xf Je hU1 r2 YQ YR;exact ⟨g1, by rw [g1]; exact Nat.succ_pos _, b1.trans (r1.trans NK), Xg b3 hU2 g2 b2, b4⟩
theorem Pb{a b zb v u q U A C:Words}{v1 v2:UInt32}{s n m V N j R Q:Nat}(dv:Dv a b zb v v1 v2 s n m V N)(pt:Pt u U A C n j R Q V)(Yy:j+1≤m)(yg:u.length=a.length+1)(Ea:q.length=m)(hA:nat u=nat A+4294967296^j*R)
  (hinv:N=nat (q.drop (j+1))*4294967296^(j+1)*V+nat u)
  (ih:∀(u q:Words),u.length=a.length+1→q.length=m→nat (u.drop j)<V→N=nat (q.drop j)*4294967296^j*V+nat u →
   bn.ai (s:Int) zb b (a.length+1) m v1 v2 ((j:Int)-1) u q (.aF [af (words (nat a/nat b)),af (words (nat a%nat b))])) (U2:Words) (w:UInt32) (I9:U2.length=n+3) (Ej:nat U2=R%V) (hw:w.toNat=Q) :
  bn.ai (s:Int) zb b (a.length+1) m v1 v2 ((j:Int)-1) (A++(U2++C)) (q.set j w) (.aF [af (words (nat a/nat b)),af (words (nat a%nat b))]):=by
 have RW:=dv.RW;obtain⟨NK,RX,hu,Ar,hQ,UY,hR,hj,_⟩:=pt;have JC:(A++(U2++C)).drop j=U2++C:=by rw[←RX];exact List.drop_left
 have hn3:nat (U2++C)=R%V:=by rw[np,UY,Ej];simp
 refine ih _ _ ?_ (by simpa using Ea) (by rw[JC,hn3];exact ahy _ RW) ?_
 ·have h5:u.length=(A++(U++C)).length:=by rw[←hu]
  simp only[List.length_append] at h5 ⊢;omega
 ·have h5:nat (A++(U2++C))=nat A+4294967296^j*(R%V):=by rw[np,hn3,RX]
  have h7:nat ((q.set j w).drop j)=Q+4294967296*nat (q.drop (j+1)):=by rw[rn (v:=w) (by rw[aiy (by omega)]),List.drop_set_of_lt (by omega),hw]
  rw[h5,h7,hinv,hA];have h8:=ahA R V;rw[hQ] at h8;have e1:(4294967296:Nat)^(j+1)=4294967296^j*4294967296:=agb ..;rw[e1];generalize (4294967296:Nat)^j=P at *;generalize nat (q.drop (j+1))=X at *;generalize R%V=r at *;rw[←h8];clear h8 hj hu Ar hR hinv hA h5 h7 e1;grind
theorem MR{a b zb v u q U A C:Words}{v1 v2 lo:UInt32}{s n m V N j R Q head r0:Nat}(dv:Dv a b zb v v1 v2 s n m V N)(pt:Pt u U A C n j R Q V)(kn:Kn V R (4294967296^n) v1.toNat v2.toNat head lo.toNat r0)(Yy:j+1≤m)(yg:u.length=a.length+1)(Ea:q.length=m)(HD:U[n]? = some lo)
  (next:∀(U2:Words) (w:UInt32),U2.length=n+3→nat U2=R%V→w.toNat=Q →
   bn.ai (s:Int) zb b (a.length+1) m v1 v2 ((j:Int)-1) (A++(U2++C)) (q.set j w) (.aF [af (words (nat a/nat b)),af (words (nat a%nat b))])) :
  ∀(k bO rest:Nat),4294967296-rest≤k→rest<18446744073709551616-4294967296→bO*v1.toNat+rest=head→Q≤bO→bO<18446744073709551616 →
   bn.bD (s:Int) zb b (a.length+1) m v1 v2 (((j+1:Nat):Int)-1) j (j+(n+3)) bO rest u q (.aF [af (words (nat a/nat b)),af (words (nat a%nat b))]):=by
 have fin:=RY dv pt;obtain⟨hv,F5,BP,hm,Bj,DM,Aq,RW,H8,EC,Ln,QO,H9,res⟩:=dv;obtain⟨NK,RX,hu,Ar,hQ,UY,hR,hj,_⟩:=pt;have UX:=ju lo;have aaB:=ju v1;have aaC:=ju v2;have x7:(zb.take b.length).length=n+2:=by rw[←hv];exact Bj
 have Pc:(2:Nat)^min 32 64=4294967296:=by decide
 have pR:∀(k:Nat) (w:UInt32),U[k]? = some w→u[(0+j*1)+k]? = some w:=fun k w hk=>by rw[hu,agQ,ai6,←RX];exact gY A U C k w hk
 have Pd:=kn.small;rw[hQ] at Pd;have Xh:∀{g r:Nat},g*v1.toNat+r=head→r*4294967296+lo.toNat<g*v2.toNat→Q<g:=fun h1 h2=>by rw[←hQ];exact kn.less h1 h2
 have Pe:∀{g r:Nat},g*v1.toNat+r=head→g<4294967296→(4294967296≤r∨g*v2.toNat≤r*4294967296+lo.toNat)→g≤Q+1:=fun h1 h2 h3=>by rw[←hQ];exact kn.aax h1 h2 h3
 clear Aq QO Ln res Ar hR;intro k
 induction k with
 |zero =>
  intro bO rest hk Xi hg hq YQ;have hr:4294967296≤rest:=by omega
  have Dq:=kn.fits hg hr;obtain⟨U1,bo,U2,f1,f2,f3,f4⟩:=fin bO Dq hq (Pe hg Dq (.inl hr));cases bo with
  |false =>obtain⟨g1,g2⟩:=f3 rfl;obtain⟨w,hw⟩:=iw bO Dq;refine bn.l25 (s:Int) zb b (a.length+1) m v1 v2 _ j (j+(n+3)) bO rest u q _ false w j hr f2 rfl (by omega) (by omega) (by omega) (by omega) (by unfold az;omega) ?_;rw[show (((j+1:Nat):Int)-1-1)=(j:Int)-1 from by omega];exact next U1 w f1 g2 (by omega)
  |true =>obtain⟨g1,g0,g2,g3,g4⟩:=f4 rfl;obtain⟨w,hw⟩:=iw (bO-1) (by omega);refine bn.l24 (s:Int) zb b (a.length+1) m v1 v2 _ j (j+(n+3)) bO rest u q _ true (bO-1) _ w j hr f2 rfl (by omega) g4 (by omega) (by omega) (by omega) (by omega) (by unfold az;omega) ?_;rw[show (((j+1:Nat):Int)-1-1)=(j:Int)-1 from by omega];exact next U2 w g2 g3 (by omega)
 |succ k ihk =>
  intro bO rest hk Xi hg hq YQ;by_cases hr:4294967296≤rest
  ·have Dq:=kn.fits hg hr;obtain⟨U1,bo,U2,f1,f2,f3,f4⟩:=fin bO Dq hq (Pe hg Dq (.inl hr));cases bo with
   |false =>obtain⟨g1,g2⟩:=f3 rfl;obtain⟨w,hw⟩:=iw bO Dq;refine bn.l25 (s:Int) zb b (a.length+1) m v1 v2 _ j (j+(n+3)) bO rest u q _ false w j hr f2 rfl (by omega) (by omega) (by omega) (by omega) (by unfold az;omega) ?_;rw[show (((j+1:Nat):Int)-1-1)=(j:Int)-1 from by omega];exact next U1 w f1 g2 (by omega)
   |true =>obtain⟨g1,g0,g2,g3,g4⟩:=f4 rfl;obtain⟨w,hw⟩:=iw (bO-1) (by omega);refine bn.l24 (s:Int) zb b (a.length+1) m v1 v2 _ j (j+(n+3)) bO rest u q _ true (bO-1) _ w j hr f2 rfl (by omega) g4 (by omega) (by omega) (by omega) (by omega) (by unfold az;omega) ?_;rw[show (((j+1:Nat):Int)-1-1)=(j:Int)-1 from by omega];exact next U2 w g2 g3 (by omega)
  have YC:=Pd;have step:∀(UZ:Q<bO),(bO-1)*v1.toNat+(rest+v1.toNat)=head:=by
   intro UZ;have:bO=(bO-1)+1:=by omega
   rw[this,agF,ahr] at hg;omega
  by_cases YR:4294967296≤bO
  ·refine bn.BZ (s:Int) zb b (a.length+1) m v1 v2 _ j (j+(n+3)) bO rest u q (bO-1) (rest+v1.toNat) (by omega) YR (by omega) (by omega) ?_;exact ihk (bO-1) (rest+v1.toNat) (by omega) (by omega) (step (by omega)) (by omega) (by omega)
  ·have Om:bO*v2.toNat<18446744073709551616:=by have:=xE (show bO<4294967296 by omega) aaC;omega
   have H7:rest*2^min 32 64%18446744073709551616%18446744073709551616 ||| lo.toNat%18446744073709551616=rest*4294967296+lo.toNat:=by rw[Pc,ajl];exact F1 (by omega) UX
   by_cases hc:rest*4294967296+lo.toNat<bO*v2.toNat
   ·have UZ:=Xh hg hc;refine bn.FM (s:Int) zb b (a.length+1) m v1 v2 _ j (j+(n+3)) bO rest u q (bO*v2.toNat) _ n lo (rest*4294967296+lo.toNat) (bO-1) (rest+v1.toNat) (by omega) (by omega) (agu Om) rfl (by rw[x7];unfold az;omega) (by rw[x7];omega) (by omega) (pR n lo HD) H7 hc (by omega) (by omega) ?_;exact ihk (bO-1) (rest+v1.toNat) (by omega) (by omega) (step UZ) (by omega) (by omega)
   ·obtain⟨U1,bo,U2,f1,f2,f3,f4⟩:=fin bO (by omega) hq (Pe hg (by omega) (.inr (by omega)));cases bo with
    |false =>obtain⟨g1,g2⟩:=f3 rfl;obtain⟨w,hw⟩:=iw bO (by omega);refine bn.l23 (s:Int) zb b (a.length+1) m v1 v2 _ j (j+(n+3)) bO rest u q (bO*v2.toNat) _ n lo (rest*4294967296+lo.toNat) _ false w j (by omega) (by omega) (agu Om) rfl (by rw[x7];unfold az;omega) (by rw[x7];omega) (by omega) (pR n lo HD) H7 (by omega) f2 rfl (by omega) (by omega) (by omega) (by omega) (by unfold az;omega) ?_;rw[show (((j+1:Nat):Int)-1-1)=(j:Int)-1 from by omega];exact next U1 w f1 g2 (by omega)
    |true =>obtain⟨g1,g0,g2,g3,g4⟩:=f4 rfl;obtain⟨w,hw⟩:=iw (bO-1) (by omega);refine bn.RC (s:Int) zb b (a.length+1) m v1 v2 _ j (j+(n+3)) bO rest u q (bO*v2.toNat) _ n lo (rest*4294967296+lo.toNat) _ true (bO-1) _ w j (by omega) (by omega) (agu Om) rfl (by rw[x7];unfold az;omega) (by rw[x7];omega) (by omega) (pR n lo HD) H7 (by omega) f2 rfl (by omega) g4 (by omega) (by omega) (by omega) (by omega) (by unfold az;omega) ?_;rw[show (((j+1:Nat):Int)-1-1)=(j:Int)-1 from by omega];exact next U2 w g2 g3 (by omega)
set_option maxHeartbeats 1000000 in
theorem Pf{a b zb v u q:Words}{v1 v2:UInt32}{s n m V N j:Nat}(dv:Dv a b zb v v1 v2 s n m V N)(hj:j+1≤m)(yg:u.length=a.length+1)(Ea:q.length=m)(xF:nat (u.drop (j+1))<V)(hinv:N=nat (q.drop (j+1))*4294967296^(j+1)*V+nat u)
  (ih:∀(u q:Words),u.length=a.length+1→q.length=m→nat (u.drop j)<V→N=nat (q.drop j)*4294967296^j*V+nat u →
   bn.ai (s:Int) zb b (a.length+1) m v1 v2 ((j:Int)-1) u q (.aF [af (words (nat a/nat b)),af (words (nat a%nat b))])) :
  bn.ai (s:Int) zb b (a.length+1) m v1 v2 (((j+1:Nat):Int)-1) u q (.aF [af (words (nat a/nat b)),af (words (nat a%nat b))]):=by
 have F5:=dv.F5;have BP:=dv.BP;have hm:=dv.hm;have Bj:=dv.Bj;have Aq:=dv.Aq;have Ln:=dv.Ln;have QO:=dv.QO;have H9:=dv.H9;have hv:=dv.hv;obtain⟨U,hU⟩:∃U,U=(u.drop j).take (n+3):=⟨_,rfl⟩;obtain⟨A,hA⟩:∃A,A=u.take j:=⟨_,rfl⟩;obtain⟨C,hC⟩:∃C,C=u.drop (j+(n+3)):=⟨_,rfl⟩;have NK:U.length=n+3:=by rw[hU];simp;omega
 have RX:A.length=j:=by rw[hA];simp;omega
 have hu:u=A++(U++C):=by rw[hA,hU,hC,show j+(n+3)=j+(n+3) from rfl,←ajx,ai0,ai0]
 obtain⟨R,hR⟩:∃R,R=nat (u.drop j):=⟨_,rfl⟩;obtain⟨x,hx⟩:∃x,u[j]? = some x:=⟨_,afO (by omega)⟩;have Xj:R<V*4294967296:=by rw[hR,rn hx];have h2:=ju x;omega
 have Ar:=RV u j (n+3) (by omega);rw[←hU,←hC,←hR] at Ar;have Lp:(4294967296:Nat)^(n+3)=4294967296^(n+2)*4294967296:=agb ..;have UY:nat C=0:=by
  refine ah9 fun hp => ?_
  have h2:=aga (4294967296^(n+3)) hp;omega
 rw[UY,ajJ,ahw] at Ar;obtain⟨hi,hhi⟩:∃x,U[n+2]? = some x:=⟨_,afO (by omega)⟩;obtain⟨mi,hmi⟩:∃x,U[n+1]? = some x:=⟨_,afO (by omega)⟩;obtain⟨lo,HD⟩:∃x,U[n]? = some x:=⟨_,afO (by omega)⟩;have h3:=O9 U n NK HD hmi hhi;have hUt:=eC (U.take n);rw[agh,ah0 (by omega)] at hUt;obtain⟨head,Tb⟩:∃h,h=hi.toNat*4294967296+mi.toNat:=⟨_,rfl⟩;rw[←Tb,←Ar] at h3;have kn:Kn V R (4294967296^n) v1.toNat v2.toNat head lo.toNat (nat (U.take n)) :=
  ⟨by rw[Ln];omega,by rw[Ln,agF _ 1,ahr];omega,h3,hUt,ju lo,ju v2,H9,Xj⟩
 obtain⟨Q,hQ⟩:∃Q,R/V=Q:=⟨_,rfl⟩;have Pg:=kn.start;rw[hQ] at Pg;have pt:Pt u U A C n j R Q V:=⟨NK,RX,hu,Ar,hQ,UY,hR,by omega,by omega⟩;have hAu:nat u=nat A+4294967296^j*R:=by have:=km u j (by omega);rw[←hA,←hR] at this;exact this
 have aaE:=ju hi;have aaF:=ju mi;have UX:=ju lo;have aaB:=ju v1;have x7:(zb.take b.length).length=n+2:=by rw[←hv];exact Bj
 have Pc:(2:Nat)^min 32 64=4294967296:=by decide
 have pR:∀(k:Nat) (w:UInt32),U[k]? = some w→u[(0+j*1)+k]? = some w:=fun k w hk=>by rw[hu,agQ,ai6,←RX];exact gY A U C k w hk
 have inner:=MR dv pt kn hj yg Ea HD (Pb dv pt hj yg Ea hAu hinv ih);clear Aq QO Ln Ar Lp h3 hUt Xj xF hinv hAu ih;have hhl:head<18446744073709551616:=by omega
 have hdl:head/v1.toNat≤head:=ahe _ _;have hml:=ahy head H9;have hz:(hi.toNat*2^min 32 64)%18446744073709551616%18446744073709551616 ||| mi.toNat%18446744073709551616=head:=by rw[Pc,ajl,Tb];exact F1 aaE aaF
 refine bn.l10 (s:Int) zb b (a.length+1) m v1 v2 _ u q j (j+(n+3)) hi _ (n+1) mi head (head/v1.toNat) (head%v1.toNat) (by omega) (by rw[x7];unfold az;omega) (by rw[x7];unfold az;omega) (by omega) (by rw[x7];omega) (by omega) (by omega) (by omega) (by rw[x7];omega)
  (by rw[x7];exact pR (n+2) hi hhi) rfl (by rw[x7];unfold az;omega) (by rw[x7];omega) (by omega) (pR (n+1) mi hmi) hz (by omega) (by rw[agu (by omega)]) rfl ?_
 refine inner 4294967296 _ _ (by omega) (by omega) ?_ Pg (by omega);have:=ahA head v1.toNat;rw[agR] at this;exact this
set_option maxHeartbeats 1000000 in
theorem qU(a b:Words)(ha:cn a=true)(hb:cn b=true)(et:b≠[])(BP:a.length≤2199023255551)(Ez:b.length≤2199023255552) :
  Cp 173 [af a,af b] (.aF [af (words (nat a/nat b)),af (words (nat a%nat b))]):=by
 have Tc:0<nat b:=qT hb et;have Co:=compare a b ha hb (by omega);by_cases bH:nat a<nat b
 ·rw[qy (by omega)] at Co;rw[ai7 bH,agu bH];exact bn.e0 a b (-1) _ Co (by omega) (trim a (by omega))
 have U3:0≤dV (nat a) (nat b):=by unfold dV;split<;>(try split)<;>omega
 by_cases h1:b.length=1
 ·obtain⟨v,rfl⟩:∃v,b=[v]:=List.length_eq_one_iff.1 h1;have hn:nat [v]=v.toNat:=by simp[nat]
  rw[hn] at Tc U3 Co ⊢;have hs:=short a v (by omega) (by omega);have ht:=trim [UInt32.ofNat (nat a%v.toNat)] (by simp);have Ej:nat [UInt32.ofNat (nat a%v.toNat)]=nat a%v.toNat:=by have:=ahy (nat a) Tc;have:=ju v;simp only[nat,uB];omega
  rw[Ej] at ht;exact bn.e1 a [v] _ v _ _ _ Co U3 rfl rfl hs ht
 obtain⟨n,hn⟩:∃n,b.length=n+2:=⟨b.length-2,by have:=ag8.2 et;omega⟩;obtain⟨bt,hbt⟩:∃v,b[n+1]? = some v:=⟨_,afO (by omega)⟩;have aaI:bt.toNat≠0:=(nH (by rw[hn];exact hbt)).1 hb;have Ph:=sC (n:=bt.toNat) (k:=32) (ju bt);obtain⟨kb,hkb,ae6,ae7⟩:=uE aaI;obtain⟨s,hs⟩:∃s,s=32-blen bt.toNat:=⟨_,rfl⟩;have F5:s<32:=by omega
 obtain⟨zb,ae8,aaJ,aaK,_⟩:=up b s Ez F5;obtain⟨za,aaL,Xk,_,aaM⟩:=up a s (by omega) F5;have hP:=agL s;have Xl:nat b<4294967296^(n+1)*2^(kb+1):=by have h2:=bL hbt;rw[aT (by omega)] at h2;have h3:=eC (b.take (n+1));rw[agh,ah0 (by omega)] at h3;have h4:=aga (4294967296^(n+1)) (show bt.toNat+1≤2^(kb+1) by omega);rw[agl] at h4;omega
 have Aq:nat b*2^s<4294967296^(n+2):=by
  have h2:=aiF Xl hP;have h3:2^(kb+1)*2^s=4294967296:=by rw[←ahG,show kb+1+s=32 from by omega]
  rw[agr,h3,←agb] at h2;exact h2
 obtain⟨v,hv⟩:∃v,v=zb.take b.length:=⟨_,rfl⟩;have Bj:v.length=n+2:=by rw[hv];simp;omega
 have DM:nat v=nat b*2^s:=by
  rw[←aaJ,hv];have h2:=km zb b.length (by omega);have h3:nat (zb.drop b.length)=0:=by
   refine ah9 fun hp => ?_
   have:=aga (4294967296^b.length) hp;rw[hn] at this h2;omega
  rw[h3] at h2;omega
 obtain⟨V,hV⟩:∃V,V=nat b*2^s:=⟨_,rfl⟩;rw[←hV] at DM Aq;have aaN:4294967296^(n+1)≤nat b:=by have:=H6 hb et;rwa[hn] at this
 have aaO:4294967296^(n+1)≤V:=by have:=aga (nat b) hP;omega
 have RW:0<V:=agA (aj6 (by omega)) aaO;obtain⟨v1,H8⟩:∃x,v[n+1]? = some x:=⟨_,afO (by omega)⟩;obtain⟨v2,EC⟩:∃x,v[n]? = some x:=⟨_,afO (by omega)⟩;have Ln:=Pa v n Bj EC H8;rw[DM] at Ln;have QO:=eC (v.take n);rw[agh,ah0 (by omega)] at QO;have H9:0<v1.toNat:=by
  refine aju fun h0 => ?_
  rw[h0] at Ln;have h2:=ju v2;have h3:(v2.toNat+1)*4294967296^n≤4294967296*4294967296^n:=afU _ h2;have h4:(4294967296:Nat)^(n+1)=4294967296*4294967296^n:=by rw[agb,agR]
  rw[agF] at h3;simp at Ln;omega
 have SP:b.length≤a.length:=by
  refine ajd fun h => ?_
  have h2:=eC a;have h3:=mD (show a.length≤n+1 by omega);omega
 obtain⟨m,hm⟩:∃m,a.length+1=m+(n+2):=⟨a.length+1-(n+2),by omega⟩;obtain⟨N,hN⟩:∃N,N=nat a*2^s:=⟨_,rfl⟩;rw[←hN] at Xk;have res:∀q r:Nat,N=q*V+r→r<V→nat a/nat b=q∧r/2^s=nat a%nat b:=by
  intro q r h2 h3;have h4:N/V=nat a/nat b:=by rw[hN,hV];exact Nat.mul_div_mul_right _ _ hP
  have h5:N%V=nat a%nat b*2^s:=by rw[hN,hV];exact Nat.mul_mod_mul_right _ _ _
  have h6:N/V=q:=by rw[h2,agR,ajk RW,ai7 h3,ahw]
  have h7:N%V=r:=by rw[h2,agR,ajI,agu h3]
  refine⟨by rw[←h4,h6],?_⟩;rw[←h7,h5,Nat.mul_div_cancel _ hP]
 have dv:Dv a b zb v v1 v2 s n m V N:=⟨hv,F5,BP,hm,Bj,DM,Aq,RW,H8,EC,Ln,QO,H9,res⟩;have loop:∀(jj:Nat) (u q:Words),jj≤m→u.length=a.length+1→q.length=m→nat (u.drop jj)<V→N=nat (q.drop jj)*4294967296^jj*V+nat u →
   bn.ai (s:Int) zb b (a.length+1) m v1 v2 ((jj:Int)-1) u q (.aF [af (words (nat a/nat b)),af (words (nat a%nat b))]):=by
  intro jj
  induction jj with
  |zero =>intro u q _ yg Ea xF hinv;simp only[List.drop_zero,Nat.pow_zero,Nat.mul_one] at hinv xF;obtain⟨e1,e2⟩:=res _ _ hinv xF;rw[e1,←e2];exact bn.c9 (s:Int) zb b (a.length+1) m v1 v2 _ u q _ _ (by omega) Ea.symm yg.symm (trim q (by omega)) (down u s (by omega) F5)
  |succ j ih =>intro u q hj yg Ea xF hinv;exact Pf dv hj yg Ea xF hinv (fun u q=>ih u q (by omega))
 have x7:(zb.take b.length).length=n+2:=by rw[←hv];exact Bj
 refine bn.e2 a b _ (n+1) bt (s:Int) zb za (a.length+1) m (n+1) v1 n v2 Co U3 h1 (by unfold az;omega) (by omega) hbt (by rw[hs];exact S9.Cn bt) aaK (by omega) aaM (by rw[x7];unfold az;omega) (by rw[x7];omega) (by omega) (by rw[x7];unfold az;omega) (by rw[x7];omega) (by rw[←hv];exact H8) (by rw[x7];unfold az;omega) (by rw[x7];omega) (by rw[←hv];exact EC) (by unfold az;omega) ?_;refine loop m za _ (afY _) aaL (by simp) ?_ ?_
 ·
  have h2:=km za m (by omega);refine aiu fun h => ?_
  have h3:=aga (4294967296^m) h;have h4:4294967296^m*V≤N:=by omega
  have h5:nat a*2^s<4294967296^a.length*2^s:=aiF (eC a) hP;have h6:4294967296^m*V=4294967296^m*nat b*2^s:=by rw[hV,agr]
  have h7:4294967296^a.length≤4294967296^m*nat b:=by have:=aga (4294967296^m) aaN;rw[←ahG,show m+(n+1)=a.length from by omega] at this;exact this
  have h8:=afU (2^s) h7;omega
 ·rw[agv (by simp),Xk];simp[nat]
end cF
end Go.Proofs.YtcpnocgollpbhaaGreatDoor.Sym
namespace Go.Proofs.YtcpnocgollpbhaaGreatDoor.Sym
open Go Path
set_option linter.unusedVariables false
abbrev wl(i:Int):Nat:=(words i.natAbs).length
theorem nt(i:Int):(whole i).cD.length=wl i:=rfl
theorem gj(i:Int):wl (-i)=wl i:=by unfold wl;rw[aix]
theorem mU{i:Int}{k:Nat}(h:i.natAbs<4294967296^k):wl i≤k:=fo h
theorem Ia(i:Int):i.natAbs<4294967296^wl i:=ko _
theorem yL(i j:Int):wl (i+j)≤max (wl i) (wl j)+1:=by refine mU ?_;have h1:=Ia i;have h2:=Ia j;have h3:=mD (ai2 (wl i) (wl j));have h4:=mD (ahE (wl i) (wl j));have h5:=Int.natAbs_add_le i j;rw[agb];omega
theorem eo(i j:Int):wl (i*j)≤wl i+wl j:=by refine mU ?_;rw[agW,ahG];exact Nat.mul_lt_mul'' (Ia i) (Ia j)
theorem ba(a:av):wl a.val≤a.cD.length:=by unfold wl;rw[cF.F0];cases a.valid<;>simp
namespace cF
def pL(i:Int):Int:=dV i 0
theorem Lq{i:Int}(h:i<0):pL i = -1:=qy h
theorem Lr{i:Int}(h:0<i):pL i=1:=oG h
theorem Ib:pL 0=0:=rfl
theorem Sign(a:av)(h:Fit a.cD):Cp 103 [a.pv] (vI (pL a.val)):=by
 have hm:=cD a h;by_cases h0:a.val=0
 ·rw[h0,Ib];exact oC.e0 a _ hm (by rw[h0];rfl)
 ·have hl:(words a.val.natAbs).length≠0:=by rw[Ne,dF];omega
  have hv:a.valid=true:=by
   cases hv:a.valid with
   |true=>rfl
   |false=>exact absurd (by unfold av.val;rw[hv];rfl) h0
  by_cases hn:a.val<0
  ·rw[Lq hn];have:=AK a;rw[hv,agq hn] at this;exact oC.e1 a _ hm hl (by simpa using this.symm)
  ·rw[Lr (by omega)];have:=AK a;rw[hv,ags hn] at this;exact oC.e2 a _ hm hl (by simpa using this.symm)
theorem xG(a b:av)(ha:Fit a.cD)(hb:Fit b.cD):Cp 53 [a.pv,b.pv] (vI (dV a.val b.val)):=by
 have h1:=Sign a ha;have h2:=Sign b hb;have h3:=cD a ha;have h4:=cD b hb;have h5:=neg a ha;have la:=ba a;by_cases he:pL a.val=pL b.val
 ·have hc:=compare (words a.val.natAbs) (words b.val.natAbs) (ix _) (ix _) (by have:(words a.val.natAbs).length≤a.cD.length:=la;omega);rw[aB,aB] at hc;unfold pL dV at he;by_cases hn:a.val<0
  ·have SM:b.val<0:=by
    rw[ag9 hn] at he;split at he
    ·assumption
    ·split at he<;>omega
   have e:dV a.val b.val = -(dV (a.val.natAbs:Int) (b.val.natAbs:Int)):=by unfold dV;split<;>split<;>(try split)<;>(try split)<;>omega
   rw[e];refine nP.e2 a b _ _ _ _ _ _ h1 h2 (by unfold pL dV;exact he) h3 h4 hc h5 (agq hn) ?_;unfold az dV;split<;>(try split)<;>omega
  ·have SM:¬b.val<0:=by
    intro fw;rw[ag7 hn,ag9 fw] at he;split at he<;>omega
   have e:dV a.val b.val=dV (a.val.natAbs:Int) (b.val.natAbs:Int):=by unfold dV;split<;>split<;>(try split)<;>(try split)<;>omega
   rw[e];exact nP.e3 a b _ _ _ _ _ _ h1 h2 (by unfold pL dV;exact he) h3 h4 hc h5 (ags hn)
 ·by_cases bH:pL a.val<pL b.val
  ·rw[qy (by
    unfold pL dV at bH;split at bH<;>split at bH<;>(try split at bH)<;>(try split at bH)<;>omega)]
   exact nP.e0 a b _ _ h1 h2 he bH
  ·rw[oG (by
    unfold pL dV at bH he;split at bH<;>split at bH<;>(try split at bH)<;>(try split at bH)<;>(simp_all;try omega))]
   exact nP.e1 a b _ _ h1 h2 he (by omega)
theorem Neg(a:av)(h:Fit a.cD):Cp 109 [a.pv] (Sym.whole (-a.val)).pv:=by
 have h3:=cD a h;have h5:=neg a h;have la:=ba a;have hw:=whole (!decide (a.val<0)) (words a.val.natAbs) (by have:(words a.val.natAbs).length≤a.cD.length:=la;omega);have e:(bif !decide (a.val<0) then -(nat (words a.val.natAbs):Int) else (nat (words a.val.natAbs):Int)) = -a.val:=by
  rw[aB];by_cases h:a.val<0
  ·simp[h];omega
  ·simp[h];omega
 rw[e] at hw;exact zJ.e0 a _ _ _ h5 h3 hw
theorem Add(a b:av)(ha:Fit a.cD)(hb:Fit b.cD):Cp 74 [a.pv,b.pv] (Sym.whole (a.val+b.val)).pv:=by
 have h1:=cD a ha;have h2:=cD b hb;have h3:=neg a ha;have h4:=neg b hb;have la:(words a.val.natAbs).length≤a.cD.length:=ba a;have lb:(words b.val.natAbs).length≤b.cD.length:=ba b;by_cases hs:decide (a.val<0)=decide (b.val<0)
 ·have hp:=plus (words a.val.natAbs) (words b.val.natAbs) (by omega) (by omega);rw[aB,aB] at hp;have hl:=fo (n:=a.val.natAbs+b.val.natAbs) (k:=max (words a.val.natAbs).length (words b.val.natAbs).length+1) (by
   have g1:=ko a.val.natAbs;have g2:=ko b.val.natAbs;have g3:=mD (ai2 (words a.val.natAbs).length (words b.val.natAbs).length);have g4:=mD (ahE (words a.val.natAbs).length (words b.val.natAbs).length);rw[agb];omega)
  have hw:=whole (decide (a.val<0)) (words (a.val.natAbs+b.val.natAbs)) (by omega);rw[aB] at hw;have e:(bif decide (a.val<0) then -((a.val.natAbs+b.val.natAbs:Nat):Int) else ((a.val.natAbs+b.val.natAbs:Nat):Int))=a.val+b.val:=by
   by_cases h:a.val<0
   ·have:b.val<0:=by simpa[h] using hs.symm
    simp[h];omega
   ·have:¬b.val<0:=by simpa[h] using hs.symm
    simp[h];omega
  rw[e] at hw;exact qe.e0 a b _ _ _ _ _ _ _ h1 h2 h3 h4 hs h3 hp hw
 ·have hc:=compare (words a.val.natAbs) (words b.val.natAbs) (ix _) (ix _) (by omega);rw[aB,aB] at hc;by_cases DD:b.val.natAbs≤a.val.natAbs
  ·have hl:=less (words a.val.natAbs) (words b.val.natAbs) (by omega) (by rw[aB,aB];exact DD);rw[aB,aB] at hl;have hlen:=dZ (show a.val.natAbs-b.val.natAbs≤a.val.natAbs by omega);have hw:=whole (decide (a.val<0)) (words (a.val.natAbs-b.val.natAbs)) (by omega);rw[aB] at hw;have e:(bif decide (a.val<0) then -((a.val.natAbs-b.val.natAbs:Nat):Int) else ((a.val.natAbs-b.val.natAbs:Nat):Int))=a.val+b.val:=by
    by_cases h:a.val<0
    ·have:¬b.val<0:=by simpa[h] using hs
     simp[h];omega
    ·have:b.val<0:=by simpa[h] using hs
     simp[h];omega
   rw[e] at hw;exact qe.e1 a b _ _ _ _ _ _ _ _ h1 h2 h3 h4 hs hc (by unfold dV;split<;>(try split)<;>omega) h3 hl hw
  ·have hl:=less (words b.val.natAbs) (words a.val.natAbs) (by omega) (by rw[aB,aB];omega);rw[aB,aB] at hl;have hlen:=dZ (show b.val.natAbs-a.val.natAbs≤b.val.natAbs by omega);have hw:=whole (decide (b.val<0)) (words (b.val.natAbs-a.val.natAbs)) (by omega);rw[aB] at hw;have e:(bif decide (b.val<0) then -((b.val.natAbs-a.val.natAbs:Nat):Int) else ((b.val.natAbs-a.val.natAbs:Nat):Int))=a.val+b.val:=by
    by_cases h:b.val<0
    ·have:¬a.val<0:=by intro h';simp[h,h'] at hs
     simp[h];omega
    ·have:a.val<0:=by
      refine afV fun h' => ?_
      simp[h,h'] at hs
     simp[h];omega
   rw[e] at hw;exact qe.e2 a b _ _ _ _ _ _ _ _ h1 h2 h3 h4 hs hc (by unfold dV;split<;>(try split)<;>omega) h4 hl hw
theorem Sub(a b:av)(ha:Fit a.cD)(hb:Fit b.cD):Cp 137 [a.pv,b.pv] (Sym.whole (a.val-b.val)).pv:=by
 have h1:=Neg b hb;have h2:=Add a (Sym.whole (-b.val)) ha (by have:=ba b;show(words (-b.val).natAbs).length≤_;rw[aix];have:(words b.val.natAbs).length≤b.cD.length:=this;omega)
 rw[aC,←ajv] at h2;exact zK.e0 a b _ _ h1 h2
theorem Mul(a b:av)(ha:Fit a.cD)(hb:Fit b.cD):Cp 54 [a.pv,b.pv] (Sym.whole (a.val*b.val)).pv:=by
 have h1:=cD a ha;have h2:=cD b hb;have h3:=neg a ha;have h4:=neg b hb;have la:(words a.val.natAbs).length≤a.cD.length:=ba a;have lb:(words b.val.natAbs).length≤b.cD.length:=ba b;have ht:=times (words a.val.natAbs) (words b.val.natAbs) (by omega) (by omega);rw[aB,aB] at ht;have hl:(words (a.val.natAbs*b.val.natAbs)).length≤(words a.val.natAbs).length+(words b.val.natAbs).length:=by have:=eo a.val b.val;unfold wl at this;rw[agW] at this;exact this
 have hw:=whole (!(decide (a.val<0)==decide (b.val<0))) (words (a.val.natAbs*b.val.natAbs)) (by omega);rw[aB] at hw;have e:(bif !(decide (a.val<0)==decide (b.val<0)) then -((a.val.natAbs*b.val.natAbs:Nat):Int) else ((a.val.natAbs*b.val.natAbs:Nat):Int))=a.val*b.val:=by
  by_cases h:a.val<0<;>by_cases h':b.val<0<;>simp only[h,h',decide_true,decide_false,beq_self_eq_true,Bool.not_true,cond_false,Bool.not_false,cond_true,show(true==false)=false from rfl,show(false==true)=false from rfl]
  ·rw[←agW,aim (aiY (by omega) (by omega))]
  ·rw[←agW,aii (aiZ (by omega) (by omega))];omega
  ·rw[←agW,aii (aj0 (by omega) (by omega))];omega
  ·rw[←agW,aim (Int.mul_nonneg (by omega) (by omega))]
 rw[e] at hw;exact zI.e0 a b _ _ _ _ _ _ h3 h4 h1 h2 ht hw
theorem Of(n:Int)(h:az n):Cp 56 [vI n] (Sym.whole n).pv:=by
 obtain⟨g1,g2⟩:=h;have Pc:(2:Nat)^min 32 64=4294967296:=by decide
 have key:∀m:Nat,m=n.natAbs→∃w w1:UInt32,m%4294967296=w.toNat∧m/4294967296%4294967296=w1.toNat∧Cp 107 [(vB (decide (n<0))),(af [w,w1])] (Sym.whole n).pv:=by
  intro m hm;obtain⟨w,hw⟩:=iw (m%4294967296) (by omega);obtain⟨w1,KY⟩:=iw (m/4294967296%4294967296) (by omega);refine⟨w,w1,hw.symm,KY.symm,?_⟩;have:=whole (decide (n<0)) [w,w1] (by simp);have e:nat [w,w1]=m:=by simp only[nat,hw,KY];omega
  rw[e,hm] at this;have e2:(bif decide (n<0) then -(n.natAbs:Int) else (n.natAbs:Int))=n:=by
   by_cases h:n<0
   ·simp[h];omega
   ·simp[h];omega
  rw[e2] at this;exact this
 by_cases hn:n<0
 ·obtain⟨w,w1,q1,q2,q3⟩:=key n.natAbs rfl;exact vY.e0 n (n%18446744073709551616).toNat n.natAbs w _ w1 _ (by omega) hn (by omega) q1 (by rw[Pc]) q2 q3
 ·obtain⟨w,w1,q1,q2,q3⟩:=key n.natAbs rfl;exact vY.e1 n n.natAbs w _ w1 _ (by omega) (by omega) q1 (by rw[Pc]) q2 q3
theorem Div(a b:av)(ha:Fit a.cD)(hb:Fit b.cD)(h0:b.val≠0) :
  Cp 111 [a.pv,b.pv] (.aF [(Sym.whole (a.val/b.val)).pv,(Sym.whole (a.val%b.val)).pv,.ay]):=by
 have h1:=cD a ha;have h2:=cD b hb;have h3:=neg a ha;have h4:=neg b hb;have la:(words a.val.natAbs).length≤a.cD.length:=ba a;have lb:(words b.val.natAbs).length≤b.cD.length:=ba b;have Lm:(words b.val.natAbs).length≠0:=by rw[Ne,dF];omega
 have Tc:0<b.val.natAbs:=by omega
 have hd:=qU (words a.val.natAbs) (words b.val.natAbs) (ix _) (ix _) (by intro e;rw[e] at Lm;simp at Lm) (by omega) (by omega);rw[aB,aB] at hd;have hq:=dZ (ahe a.val.natAbs b.val.natAbs);have hr:=dZ (aja (ahy a.val.natAbs Tc));have Je:=ahA a.val.natAbs b.val.natAbs;have hml:=ahy a.val.natAbs Tc;generalize hQ:a.val.natAbs/b.val.natAbs=q at *;generalize hR:a.val.natAbs%b.val.natAbs=r at *;have sb:b.val=if b.val<0 then -(b.val.natAbs:Int) else (b.val.natAbs:Int):=by split<;>omega
 have uniq:∀x y:Int,a.val=b.val*x+y→0≤y→y<b.val.natAbs→a.val/b.val=x∧a.val%b.val=y:=by
  intro x y e1 e2 e3;rcases Int.lt_or_gt_of_ne h0 with fw|fw
  ·exact(Int.ediv_emod_unique' fw).2 ⟨by omega,e2,by omega⟩
  ·exact(Int.ediv_emod_unique fw).2 ⟨by omega,e2,by omega⟩
 by_cases hn:a.val<0
 ·by_cases G6:r=0
  ·have hw:=whole (!(decide (a.val<0)==decide (b.val<0))) (words q) (by omega);have BH:=whole false (words r) (by omega);rw[aB] at hw BH;subst G6;have e:a.val/b.val=(bif !(decide (a.val<0)==decide (b.val<0)) then -(q:Int) else (q:Int))∧a.val%b.val=0:=by
    refine uniq _ 0 ?_ (by omega) (by omega);have uv:(a.val.natAbs:Int)=(b.val.natAbs:Int)*q:=by rw[←Je];simp
    by_cases h':b.val<0
    ·simp only[hn,h',decide_true,beq_self_eq_true,Bool.not_true,cond_false];have:(b.val.natAbs:Int) = -b.val:=by omega
     rw[this] at uv;have:(a.val.natAbs:Int) = -a.val:=by omega
     rw[this,ajm] at uv;omega
    ·simp only[hn,h',decide_true,decide_false,show(true==false)=false from rfl,Bool.not_false,cond_true];have:(b.val.natAbs:Int)=b.val:=by omega
     rw[this] at uv;have:(a.val.natAbs:Int) = -a.val:=by omega
     rw[this] at uv;rw[ajn];omega
   rw[e.1,e.2];exact qf.e2 a b _ _ _ _ _ _ _ _ _ h2 Lm h1 hd h3 (agq hn) (by rw[fJ];simp) h3 h4 hw BH
  ·have hp:=plus (words q) [1] (by omega) (by simp);have hl:=less (words b.val.natAbs) (words r) (by omega) (by rw[aB,aB];omega);rw[aB] at hp;rw[aB,aB] at hl;have e1:nat [1]=1:=rfl;rw[e1] at hp;have I8:=fo (n:=q+1) (k:=(words q).length+1) (by have:=ko q;rw[agb];omega);have I9:=dZ (show b.val.natAbs-r≤b.val.natAbs by omega);have hw:=whole (!(decide (a.val<0)==decide (b.val<0))) (words (q+1)) (by omega);have BH:=whole false (words (b.val.natAbs-r)) (by omega);rw[aB] at hw BH;have e:a.val/b.val=(bif !(decide (a.val<0)==decide (b.val<0)) then -((q+1:Nat):Int) else ((q+1:Nat):Int))∧a.val%b.val=((b.val.natAbs-r:Nat):Int):=by
    refine uniq _ _ ?_ (by omega) (by omega);have uv:(a.val.natAbs:Int)=(b.val.natAbs:Int)*q+r:=by rw[←Je];simp
    by_cases h':b.val<0
    ·simp only[hn,h',decide_true,beq_self_eq_true,Bool.not_true,cond_false];have e5:(b.val.natAbs:Int) = -b.val:=by omega
     rw[e5] at uv;have:(a.val.natAbs:Int) = -a.val:=by omega
     rw[this,ajm] at uv;rw[show ((q+1:Nat):Int)=(q:Int)+1 from by omega,ajP];omega
    ·simp only[hn,h',decide_true,decide_false,show(true==false)=false from rfl,Bool.not_false,cond_true];have:(b.val.natAbs:Int)=b.val:=by omega
     rw[this] at uv;have:(a.val.natAbs:Int) = -a.val:=by omega
     rw[this] at uv;rw[show ((q+1:Nat):Int)=(q:Int)+1 from by omega,ajn,ajP];omega
   rw[e.1,e.2];exact qf.e1 a b _ _ _ _ _ _ _ _ _ _ _ h2 Lm h1 hd h3 (agq hn) (by have:=(dF (n:=r)).1;omega) hp hl h3 h4 hw BH
 ·have hw:=whole (!(decide (a.val<0)==decide (b.val<0))) (words q) (by omega);have BH:=whole false (words r) (by omega);rw[aB] at hw BH;have e:a.val/b.val=(bif !(decide (a.val<0)==decide (b.val<0)) then -(q:Int) else (q:Int))∧a.val%b.val=(r:Int):=by
   refine uniq _ _ ?_ (by omega) (by omega);have uv:(a.val.natAbs:Int)=(b.val.natAbs:Int)*q+r:=by rw[←Je];simp
   by_cases h':b.val<0
   ·simp only[hn,h',decide_true,decide_false,show(false==true)=false from rfl,Bool.not_false,cond_true];have e5:(b.val.natAbs:Int) = -b.val:=by omega
    rw[e5] at uv;have:(a.val.natAbs:Int)=a.val:=by omega
    rw[this,ajm] at uv;rw[ajn];omega
   ·simp only[hn,h',decide_false,beq_self_eq_true,Bool.not_true,cond_false];have:(b.val.natAbs:Int)=b.val:=by omega
    rw[this] at uv;have:(a.val.natAbs:Int)=a.val:=by omega
    rw[this] at uv;omega
  rw[e.1,e.2];exact qf.e3 a b _ _ _ _ _ _ _ _ _ h2 Lm h1 hd h3 (ags hn) h3 h4 hw BH
theorem Gcd(a b:av)(ha:Fit a.cD)(hb:Fit b.cD):Cp 110 [a.pv,b.pv] (Sym.whole (Nat.gcd a.val.natAbs b.val.natAbs)).pv:=by
 have h1:=cD a ha;have h2:=cD b hb;have la:(words a.val.natAbs).length≤a.cD.length:=ba a;have lb:(words b.val.natAbs).length≤b.cD.length:=ba b;have loop:∀(k x y:Nat),y≤k→(words x).length≤1099511627776→(words y).length≤1099511627776→lN.ai (words x) (words y) (Sym.whole (Nat.gcd x y)).pv:=by
  intro k
  induction k with
  |zero =>
   intro x y hy hx _;have:y=0:=by omega
   subst this;have hw:=whole false (words x) (by omega);rw[aB] at hw;rw[aiC];exact lN.c9 _ _ _ (by rw[fJ];simp) hw
  |succ k ih =>
   intro x y hy hx hyl;by_cases h0:y=0
   ·subst h0;have hw:=whole false (words x) (by omega);rw[aB] at hw;rw[aiC];exact lN.c9 _ _ _ (by rw[fJ];simp) hw
   ·have hy0:(words y).length≠0:=by rw[Ne,dF];exact h0
    have hd:=qU (words x) (words y) (ix _) (ix _) (by intro e;rw[e] at hy0;simp at hy0) (by omega) (by omega);rw[aB,aB] at hd;have hm:=ahy x (show 0<y by omega);refine lN.l10 _ _ _ _ (by omega) hd ?_;rw[aiG,Nat.gcd_rec,aiG];exact ih y (x%y) (by omega) hyl (ag3 (dZ (aja hm)) hyl)
 exact lN.e0 a b _ _ h1 h2 (loop _ _ _ (afY _) (by omega) (by omega))
end cF
end Go.Proofs.YtcpnocgollpbhaaGreatDoor.Sym
