/- Lemmas for the statements of this seat. -/
import Derived.Test.YtllmkadmohkbfaaGreatDoorVObs
import Derived.Deep.Slices
import Derived.WideKeyArgs
import Derived.RowKit3
import Derived.WalkKit
import Derived.ProofKit
import Derived.OpenShut
import Derived.SizedLaws
import Derived.Test.YtllmkadmohkbfaaGreatDoorU0
import Derived.Test.YtllmkadmohkbfaaGreatDoorQ0
namespace Go.Proofs.YtllmkadmohkbfaaGreatDoor.Sym
open Go Go.RowKit Go.ChangeShapes Go.WideShapes
set_option linter.unusedVariables false
abbrev Old(w:World)(b:Nat):Prop:=b<w.heap.size
def tA(P:Program)(t:TypeId){α:Type}(f:α→List PV)(Q:α→Prop):Prop :=
 ∀{H:Type} (enc:TypeId×Value→H) (w:World) (base:Nat) (spare:Nat→Bool) (held:Bool) (fuel:Nat) (cs:List Value) (x:DataW H×List MemPlace),
  DataW.trod enc P w base spare held fuel t cs=some x→(∀n∈x.1.weights P t,n≤reachBytes)→∃a,bV (Old w) w (f a) cs∧Q a
theorem mf{I:Nat→Prop}{w:World}{a b:List PV}{us vs:List Value}(h:bV I w a us)(k:bV I w b vs):bV I w (a++b) (us++vs):=by
 refine⟨by rw[List.length_append,List.length_append,h.1,k.1],fun j c u hc hu => ?_⟩
 by_cases hj:j<a.length
 ·rw[List.getElem?_append_left hj] at hc
  rw[List.getElem?_append_left (by rw[←h.1];exact hj)] at hu
  exact h.2 j c u hc hu
 ·rw[List.getElem?_append_right (by omega)] at hc
  rw[List.getElem?_append_right (by rw[←h.1];omega)] at hu
  rw[h.1] at hc
  exact k.2 _ c u hc hu
theorem nE{I:Nat→Prop}{w:World}{p:PV}{v:Value}(h1:p.one=true)(h:Rd I w p v):bV I w [p] [v]:=by
 refine⟨rfl,fun j c u hc hu => ?_⟩
 cases j with
 |zero=>simp at hc hu;subst hc hu;exact⟨h1,h⟩
 |succ j=>simp at hc
theorem Dp{P:Program}{t:TypeId}{k:IntKind}(ht:P.underlying t=some (.int k)):tA P t (fun n:Int=>[.int k n]) (fun n=>(Lit.int k n).wf=true):=by
 intro H enc w base spare held fuel cs x h _
 obtain⟨n,rfl,_,hw⟩:=DataW.trod_int ht h
 exact⟨n,nE rfl (.int _ _),hw⟩
theorem Ij{P:Program}{t:TypeId}(ht:P.underlying t=some .bool):tA P t (fun b:Bool=>[.bool b]) (fun _=>True):=by
 intro H enc w base spare held fuel cs x h _
 obtain⟨b,rfl,_⟩:=DataW.trod_bool ht h
 exact⟨b,nE rfl (.bool _),trivial⟩
theorem MA{w:World}{a:Addr}{v:Value}(h:w.cell? a=some v):a.spot=none∧a.block<w.heap.size:=by
 unfold World.cell? at h
 split at h
 ·rename_i c q r hc
  refine⟨?_,(Array.getElem?_eq_some_iff.1 hc).1⟩
  cases hs:a.spot with
  |none=>rfl
  |some _=>rw[hs] at h;simp at h
 ·cases h
theorem Gg(a:Addr):a.add 0=a:=rfl
theorem Dq(b o i:Nat):(⟨b,o,none⟩:Addr).add i=⟨b,o+i,none⟩:=by
 unfold Addr.add
 split
 ·rename_i h;subst h;rfl
 ·rfl
theorem zh{H:Type}{P:Program}{e:TypeId} : ∀{l:List (DataW H)} {d:DataW H} {n:Nat},d∈l→n∈d.weights P e→n∈DataW.weightsAll P e l
 |a::r,d,n,hd,hn=>by
  simp only[DataW.weightsAll,List.mem_append]
  rcases List.mem_cons.1 hd with h|h
  ·subst h;exact Or.inl hn
  ·exact Or.inr (zh h hn)
theorem zi{P:Program}{t e:TypeId}{α:Type}{f:α→List PV}{Q:α→Prop}{s sb:Nat}(ht:P.underlying t=some (.slice e))(hs:P.cellsOf e=s)(HP:0<s)(Z9:P.bytesOf e=sb)(hf:∀a,(f a).length=s)(ho:tA P e f Q) :
  tA P t (fun l:List α=>[.list (l.map f)]) (fun l=>l.length*sb≤reachBytes∧∀a∈l,Q a):=by
 intro H enc w base spare held fuel cs x h Dr
 rcases Deep.open_slice ht h with ⟨rfl,_⟩|⟨a,len,cap,m,n,D,Pl,rfl,hb,hl,hm,hmm,PU,hx⟩
 ·exact⟨[],nE rfl (.nil _ _),by simp,by simp⟩
 rw[hs] at hx
 have YB:len≤m:=by rw[hmm];split<;>omega
 have D8:∀i,i<len→∃(y:α×List Value),w.cells? base (a.add (i*s)) s=some y.2∧bV (Old w) w (f y.1) y.2∧Q y.1:=by
  intro i hi
  obtain⟨Vt,h1,h2⟩:=hx i (by omega)
  obtain⟨y,h3,h4⟩:=ho enc w base spare held n Vt _ h2 (fun q hq=>Dr q (by
   rw[PU]
   simp only[DataW.weights,ht,List.mem_cons,List.mem_append]
   exact Or.inr (Or.inl (zh (List.mem_map.2 ⟨i,List.mem_range.2 hi,rfl⟩) hq))))
  exact⟨(y,Vt),h1,h3,h4⟩
 by_cases h0:len=0
 ·subst h0
  exact⟨[],nE rfl (.nil _ _),by simp,by simp⟩
 have di:Nonempty (α×List Value):=⟨(D8 0 (by omega)).choose⟩
 have:Inhabited (α×List Value):=Classical.inhabited_of_nonempty di
 obtain⟨Y,hY⟩:=Deep.choose_lt D8
 obtain⟨c0,_⟩:=hY 0 (by omega)
 obtain⟨_,cl0,cg0⟩:=World.cells?_some c0
 have cg:=cg0 0 HP
 obtain⟨v0,WS⟩:∃v,(Y 0).2[0]? = some v:=⟨_,List.getElem?_eq_getElem (by omega)⟩
 rw[WS] at cg
 rw[Nat.zero_mul,Gg,Gg] at cg
 obtain⟨NY,RI⟩:=MA cg
 obtain⟨b,o,sp⟩:=a
 simp only at NY RI
 subst NY
 have MB:∀i j:Nat,i<len→j<s→w.cell? ⟨b,o+(i*s+j),none⟩=(Y i).2[j]? := by
  intro i j hi hj
  obtain⟨c1,_⟩:=hY i hi
  obtain⟨_,_,g⟩:=World.cells?_some c1
  have:=g j hj
  rw[Dq,Dq,Nat.add_assoc] at this
  exact this
 refine⟨(List.range len).map (fun i=>(Y i).1),nE rfl ?_,?_,?_⟩
 ·have e:len=(((List.range len).map (fun i=>(Y i).1)).map f).length:=by simp
  have xK:∀(i:Nat) row,(((List.range len).map (fun i=>(Y i).1)).map f)[i]? = some row→i<len∧row=f (Y i).1:=by
   intro i row hr
   have hi:i<len:=by have:=(List.getElem?_eq_some_iff.1 hr).1;rw[←e] at this;exact this
   refine⟨hi,?_⟩
   simp[List.getElem?_map,List.getElem?_range hi] at hr
   exact hr.symm
  have key:Rd (Old w) w (.list (((List.range len).map (fun i=>(Y i).1)).map f)) (.slice (some ⟨b,o,none⟩) (((List.range len).map (fun i=>(Y i).1)).map f).length cap):=by
   refine Rd.list _ b o cap s (fun i j=>((Y i).2[j]?).getD .nilIface) (by rw[←e];exact hl) RI ?_ ?_ ?_
   ·intro i row hr
    obtain⟨_,rfl⟩:=xK i row hr
    exact hf _
   ·intro i j row x hr LW
    obtain⟨hi,rfl⟩:=xK i row hr
    obtain⟨c1,r1,_⟩:=hY i hi
    have hj:j<s:=by rw[←hf (Y i).1];exact(List.getElem?_eq_some_iff.1 LW).1
    have hlen:=r1.1
    obtain⟨u,hu⟩:∃u,(Y i).2[j]? = some u:=⟨_,List.getElem?_eq_getElem (by rw[←hlen,hf];exact hj)⟩
    refine⟨(r1.2 j x u LW hu).1,?_⟩
    rw[MB i j hi hj,hu];rfl
   ·intro i j row x hr LW
    obtain⟨hi,rfl⟩:=xK i row hr
    obtain⟨c1,r1,_⟩:=hY i hi
    have hj:j<s:=by rw[←hf (Y i).1];exact(List.getElem?_eq_some_iff.1 LW).1
    have hlen:=r1.1
    obtain⟨u,hu⟩:∃u,(Y i).2[j]? = some u:=⟨_,List.getElem?_eq_getElem (by rw[←hlen,hf];exact hj)⟩
    rw[hu]
    exact(r1.2 j x u LW hu).2
  rw[←e] at key
  exact key
 ·have:=Dr ((len+(m-len))*sb) (by
   rw[PU]
   simp only[DataW.weights,ht,Z9,List.length_map,List.length_range,List.mem_cons,true_or])
  rw[List.length_map,List.length_range]
  exact Nat.le_trans (Nat.mul_le_mul_right _ (by omega)) this
 ·intro y hy
  obtain⟨i,hi,rfl⟩:=List.mem_map.1 hy
  exact(hY i (List.mem_range.1 hi)).2.2
theorem r8{P:Program}{t:TypeId}{fs:Array Field}(ht:P.underlying t=some (.struct fs)){H:Type}{enc:TypeId×Value→H}{w:World}{base:Nat}{spare:Nat→Bool}{held:Bool}{fuel:Nat}{cs:List Value}{x:DataW H×List MemPlace}
  (h:DataW.trod enc P w base spare held fuel t cs=some x):cs.length=P.cellsOf t:=(DataW.trod_struct ht h).choose_spec.choose_spec.2.2.1
theorem jL{P:Program}{t u:TypeId}{fs:Array Field}{α:Type}{f:α→List PV}{Q:α→Prop}(ht:P.underlying t=some (.struct fs)){H:Type}{enc:TypeId×Value→H}{w:World}{base:Nat}{spare:Nat→Bool}{held:Bool}{fuel:Nat}{cs:List Value}{x:DataW H×List MemPlace}
  (h:DataW.trod enc P w base spare held fuel t cs=some x) (Dr:∀n∈x.1.weights P t,n≤reachBytes) (i off s:Nat) (hi:(fs[i]?).map (fun f=>(f.type,f.offset))=some (u,off)) (hs:P.cellsOf u=s) (ho:tA P u f Q):∃a,bV (Old w) w (f a) ((cs.drop off).take s)∧Q a:=by
 obtain⟨xs,n,_,hx,hl,hlen,hf⟩:=DataW.trod_struct ht h
 cases hfi:fs[i]? with
 |none=>rw[hfi] at hi;cases hi
 |some fd =>
  rw[hfi] at hi
  injection hi with hi
  injection hi with e1 e2
  have h1:=hf i fd hfi
  have h2:i<xs.length:=by rw[hlen];exact(Array.getElem?_eq_some_iff.1 hfi).1
  rw[List.getElem?_eq_getElem h2,e1,e2,hs] at h1
  refine ho enc w base spare held n _ _ h1 (fun q hq=>Dr q ?_)
  rw[hx]
  simp only[DataW.weights,ht]
  refine DataW.weights_mem_each (j:=i) (t:=u) (d:=xs[i].1) ?_ ?_ q hq
  ·rw[List.getElem?_map,Array.getElem?_toList,hfi]
   exact congrArg some e1
  ·rw[List.getElem?_map,List.getElem?_eq_getElem h2];rfl
def vG:Option TypeDesc→Option (List (TypeId×Nat))
 |some (.struct fs)=>some (fs.toList.map fun f=>(f.type,f.offset))
 |_=>none
theorem rb{u:Option TypeDesc}{l:List (TypeId×Nat)}(h:vG u=some l):∃fs,u=some (.struct fs)∧∀i:Nat,(fs[i]?).map (fun f=>(f.type,f.offset))=l[i]? := by
 unfold vG at h
 split at h
 ·rename_i fs
  injection h with h
  refine⟨fs,rfl,fun i => ?_⟩
  rw[←h,List.getElem?_map,Array.getElem?_toList]
 ·cases h
theorem Ds{P:Program}{t:TypeId}{fs:Array Field}{w:World}{r:Reach}{b0:Nat}{v:Value}{cs:List PV}(ht:P.underlying t=some (.struct fs))(hv:Value.okWide P w r b0 t v)(h:bV (Old w) w cs v.cells.toList):Rd (Old w) w (.agg cs) v:=by
 obtain⟨us,rfl,_⟩:=okWide_struct ht hv
 have h:bV (Old w) w cs us.toList:=h
 refine .agg cs us (by rw[h.1];simp) (fun j c hc => ?_) (fun j c u hc hu=>(h.2 j c u hc (by simpa using hu)).2)
 obtain⟨u,hu⟩:∃u,us.toList[j]? = some u:=⟨_,List.getElem?_eq_getElem (by rw[←h.1];exact(List.getElem?_eq_some_iff.1 hc).1)⟩
 exact(h.2 j c u hc hu).1
theorem Ik{w w':World}{may:MemPlace→Prop}(h:ll (fun _=>False) w w'):w.keptBut w' may:=by
 refine⟨h.os,h.output,fun i hi => ?_⟩
 have e:=h.block i hi (fun h=>h)
 rw[e]
 cases w.heap[i]? with
 |none=>rfl
 |some o=>cases o<;>simp
theorem EC{w w':World}(h:ll (fun _=>False) w w'){a:Addr}(ha:a.block<w.heap.size):w'.frozen? a=w.frozen? a:=by
 have e:=h.block _ ha (fun h=>h)
 unfold World.frozen?
 rw[e]
theorem Il{w w':World}(h:ll (fun _=>False) w w'){p:MemPlace}(hp:p.block<w.heap.size):w.sameAt w' p:=by
 cases p with
 |cell b off =>
  have e:=h.block b hp (fun h=>h)
  show w'.cell? _=w.cell? _
  simp[World.cell?,e]
 |map b=>exact h.block b hp (fun h=>h)
section
variable {H:Type} {enc:TypeId×Value→H} {P:Program}
theorem KN{f:Func}{s:ChangeSpec}{apart fresh handsOn again:Bool}{W W':World}{args:Array Value}{ds gs:List (DataW H)}{before:List MemPlace}{tb:TypeId}
  (hW:DataW.Whole enc P f.params.toList s.vars apart W args.toList ds gs before) (hk:ll (fun _=>False) W W')
  (P6:s.vars=[]) (Va:f.resultTypes = #[tb]) (YC:P.underlying tb=some .bool)
  (oD:(s.fn H (ds++gs)).results=[.lit (.bool true)]) (kg:(s.fn H (ds++gs)).args=ds) (hgs:(s.fn H (ds++gs)).vars=[])
  (hl:laidOutB P=true) (hr:∀t∈f.params.toList,P.readableRec t=true∧t<P.types.size):s.post enc P f apart fresh handsOn again W args (.bool true) W':=by
 have ba:=hW.lt
 obtain⟨p,q,hA,hV,PZ,hz,hn⟩:=hW
 have hW:DataW.Whole enc P f.params.toList s.vars apart W args.toList ds gs before:=⟨p,q,hA,hV,PZ,hz,hn⟩
 rw[P6] at hV
 obtain⟨Ak,nP⟩:=trodVars_none hV
 subst nP
 have Vb:before=p:=by rw[PZ];simp
 have RJ:∀(sp:Nat→Bool),(∀x∈before,sp x.block=true)→DataW.TrodAll enc P W' 0 sp true f.params.toList args.toList ds p:=by
  intro sp NY
  have key:∀{ts:List TypeId} {vs:List Value} {es:List (DataW H)} {ps:List MemPlace},(∀t∈ts,P.readableRec t=true∧t<P.types.size)→(∀x∈ps,x∈before)→DataW.TrodAll enc P W 0 (fun _=>true) true ts vs es ps→DataW.TrodAll enc P W' 0 sp true ts vs es ps:=by
   intro ts
   induction ts with
   |nil =>
    intro vs es ps _ _ h
    obtain⟨rfl,rfl,rfl⟩:=trodAll_nil h
    exact trodAll_mk0
   |cons t ts ih =>
    intro vs es ps SP ov h
    obtain⟨v,Yb,d,ds',a,b,rfl,rfl,rfl,h1,h2⟩:=trodAll_cons h
    refine⟨a,b,WideElems.Trod_stays hl (SP t (List.mem_cons_self ..)).1 (SP t (List.mem_cons_self ..)).2 h1 (fun x hx=>Il hk (ba x (ov x (List.mem_append_left _ hx)))) (fun x hx=>NY x (ov x (List.mem_append_left _ hx))),ih (fun u hu=>SP u (List.mem_cons_of_mem _ hu)) (fun x hx=>ov x (List.mem_append_right _ hx)) h2,rfl⟩
  exact key hr (fun x hx=>by rw[Vb];exact hx) hA
 have hold:∀x∈before,(fun b=>decide (b<W.heap.size)) x.block=true:=fun x hx=>by simpa using ba x hx
 have Jg:∀(b:Nat) (sp:Nat→Bool) (hd:Bool),DataW.TrodAll enc P W' b sp hd f.resultTypes.toList ((Value.bool true).resultList f.resultTypes.size) (s.fn H (ds++gs)).results []:=by
  intro b sp hd
  rw[Va,oD]
  exact trodAll_mk1 (shut_bool YC true)
 have Fh:∀sp:Nat→Bool,DataW.TrodVars enc P W' sp s.vars (s.fn H (ds++gs)).vars []:=by
  intro sp;rw[P6,hgs];rfl
 have MC:∀(sp:Nat→Bool),(∀x∈before,sp x.block=true)→DataW.TrodAll enc P W' 0 sp true f.params.toList args.toList (s.fn H (ds++gs)).args p:=by
  intro sp NY
  rw[kg];exact RJ sp NY
 refine⟨ds,gs,before,[],p,[],hW,Jg _ _ _,MC _ hold,Fh _,Ik hk,fun _ => ?_⟩
 refine⟨ok_one Va rfl (okWide_bool_mk YC true),_,_,([]++p)++[],⟨[]++p,[],trodAll_append (MC _ (fun _ _=>rfl)) (Jg _ _ _),Fh _,rfl,?_,?_⟩,?_⟩
 ·intro b off hp
  have YD:MemPlace.cell b off∈before:=by rw[Vb];simpa using hp
  rw[EC hk (ba _ YD)]
  exact hz b off YD
 ·intro ha
  have:=hn ha
  rw[Vb] at this
  simpa using this
 ·intro x hx _
  rw[Vb]
  simpa using hx
end
end Go.Proofs.YtllmkadmohkbfaaGreatDoor.Sym
namespace Go.Proofs.YtllmkadmohkbfaaGreatDoor.Sym
open Go Go.RowKit Go.ChangeShapes Go.WideShapes
set_option linter.unusedVariables false
theorem OW{n:Int}(h:(Lit.int .u32 n).wf=true):∃v:UInt32,(v.toNat:Int)=n:=by
 have h:(0≤n∧n≤4294967295):=by simpa[Lit.wf,IntKind.min,IntKind.max,IntKind.signed,IntKind.bits] using h
 refine⟨UInt32.ofNat n.toNat,?_⟩
 rw[show (UInt32.ofNat n.toNat).toNat=n.toNat from by simp;omega]
 omega
theorem OX{n:Int}(h:(Lit.int .i64 n).wf=true):ax n:=by
 have h:(-9223372036854775808≤n∧n≤9223372036854775807):=by simpa[Lit.wf,IntKind.min,IntKind.max,IntKind.signed,IntKind.bits] using h
 unfold ax
 omega
theorem Im:tA bp 119 ag (fun _=>True):=by
 intro H enc w base spare held fuel cs x h Dr
 obtain⟨n,h1,h2⟩:=Dp (k := .u32) (show bp.underlying 119=some (.int .u32) by kernel_rfl) enc w base spare held fuel cs x h Dr
 obtain⟨v,rfl⟩:=OW h2
 exact⟨v,h1,trivial⟩
theorem zj:tA bp 24 (fun l:Words=>[aa l]) (fun l=>l.length*4≤reachBytes):=by
 intro H enc w base spare held fuel cs x h Dr
 obtain⟨l,h1,h2,_⟩:=zi (s:=1) (show bp.underlying 24=some (.slice 119) by kernel_rfl) (by kernel_rfl) (by omega) (sb:=4) (by kernel_rfl) (fun _=>rfl) Im enc w base spare held fuel cs x h Dr
 exact⟨l,h1,h2⟩
theorem RK{α:Type}(cs:List α)(a b c:Nat)(h:cs.length=a+b+c):cs=(cs.drop 0).take a++((cs.drop a).take b++(cs.drop (a+b)).take c):=by
 have e:(cs.drop (a+b)).take c=cs.drop (a+b):=List.take_of_length_le (by rw[List.length_drop];omega)
 have h1:(cs.drop a).take b++cs.drop (a+b)=cs.drop a:=by
  have:=List.take_append_drop b (cs.drop a)
  rwa[List.drop_drop] at this
 rw[e,h1,List.drop_zero,List.take_append_drop]
def OY(a:af):Prop:=a.num.length*4≤reachBytes∧a.den.length*4≤reachBytes
theorem vH:tA bp 26 af.cells OY:=by
 intro H enc w base spare held fuel cs x h Dr
 obtain⟨fs,hu,e⟩:=rb (show vG (bp.underlying 26)=some [(4,0),(24,1),(24,2)] by kernel_rfl)
 have hl:=r8 hu h
 have hl:cs.length=1+1+1:=hl.trans (by kernel_rfl)
 obtain⟨b,r0,_⟩:=jL hu h Dr 0 0 1 (e 0) (by kernel_rfl) (Ij (show bp.underlying 4=some .bool by kernel_rfl))
 obtain⟨n,r1,q1⟩:=jL hu h Dr 1 1 1 (e 1) (by kernel_rfl) zj
 obtain⟨d,r2,q2⟩:=jL hu h Dr 2 2 1 (e 2) (by kernel_rfl) zj
 refine⟨⟨b,n,d⟩,?_,q1,q2⟩
 rw[RK cs 1 1 1 hl]
 exact mf r0 (mf r1 r2)
theorem Io:tA bp 23 (aC af.cells) (fun l=>∀a∈l,OY a):=by
 intro H enc w base spare held fuel cs x h Dr
 obtain⟨l,h1,_,h2⟩:=zi (s:=3) (show bp.underlying 23=some (.slice 26) by kernel_rfl) (by kernel_rfl) (by omega) (sb:=56) (by kernel_rfl) (fun _=>rfl) vH enc w base spare held fuel cs x h Dr
 exact⟨l,h1,h2⟩
theorem MD{α:Type}(cs:List α)(a b:Nat)(h:cs.length=a+b):cs=(cs.drop 0).take a++(cs.drop a).take b:=by
 have e:(cs.drop a).take b=cs.drop a:=List.take_of_length_le (by rw[List.length_drop];omega)
 rw[e,List.drop_zero,List.take_append_drop]
theorem ED:tA bp 28 ai.cells (fun r=>OY r.lo∧OY r.hi):=by
 intro H enc w base spare held fuel cs x h Dr
 obtain⟨fs,hu,e⟩:=rb (show vG (bp.underlying 28)=some [(26,0),(26,3)] by kernel_rfl)
 have hl:=r8 hu h
 have hl:cs.length=3+3:=hl.trans (by kernel_rfl)
 obtain⟨a,r0,q0⟩:=jL hu h Dr 0 0 3 (e 0) (by kernel_rfl) vH
 obtain⟨b,r1,q1⟩:=jL hu h Dr 1 3 3 (e 1) (by kernel_rfl) vH
 refine⟨⟨a,b⟩,?_,q0,q1⟩
 rw[MD cs 3 3 hl]
 exact mf r0 r1
theorem BI:tA bp 30 aH.cells (fun x=>True):=by
 intro H enc w base spare held fuel cs x h Dr
 obtain⟨fs,hu,e⟩:=rb (show vG (bp.underlying 30)=some [(23,0),(28,1)] by kernel_rfl)
 have hl:=r8 hu h
 have hl:cs.length=1+6:=hl.trans (by kernel_rfl)
 obtain⟨a,r0,q0⟩:=jL hu h Dr 0 0 1 (e 0) (by kernel_rfl) Io
 obtain⟨b,r1,q1⟩:=jL hu h Dr 1 1 6 (e 1) (by kernel_rfl) ED
 refine⟨⟨a,b⟩,?_,trivial⟩
 rw[MD cs 1 6 hl]
 exact mf r0 r1
end Go.Proofs.YtllmkadmohkbfaaGreatDoor.Sym
namespace Go.Proofs.YtllmkadmohkbfaaGreatDoor.Sym
def nat:Words→Nat
 |[]=>0
 |w::r=>w.toNat+4294967296*nat r
def r9:Nat→Nat→Words
 |0,_=>[]
 |f+1,n=>bif Nat.beq n 0 then [] else UInt32.ofNat n::r9 f (n/4294967296)
def words(n:Nat):Words:=r9 n n
theorem jh(w:UInt32):w.toNat<4294967296:=w.toNat_lt
theorem ue(n:Nat):(UInt32.ofNat n).toNat=n%4294967296:=by simp
theorem RL{a b:UInt32}(h:a.toNat=b.toNat):a=b:=UInt32.toNat_inj.1 h
theorem WT{n:Nat}(h:n<4294967296):(UInt32.ofNat n).toNat=n:=by rw[ue];exact Nat.mod_eq_of_lt h
theorem iw(n:Nat)(h:n<4294967296):∃w:UInt32,w.toNat=n:=⟨UInt32.ofNat n,WT h⟩
theorem vJ : ∀ (f n : Nat), n ≤ f → nat (r9 f n) = n
  | 0, n, h => by have : n = 0 := by omega
                  subst this; rfl
  | f + 1, n, h => by
    unfold r9
    by_cases h0 : n = 0
    · subst h0; rfl
    · have : Nat.beq n 0 = false := by
        cases hb : Nat.beq n 0 with
        | true => exact absurd (Nat.eq_of_beq_eq_true hb) h0
        | false => rfl
      rw [this]
      show (UInt32.ofNat n).toNat + 4294967296 * nat (r9 f (n / 4294967296)) = n
      rw [vJ f (n / 4294967296) (by omega), ue]
      omega
theorem aD(n:Nat):nat (words n)=n:=vJ n n (Nat.le_refl n)
def cn:Words→Bool
 |[]=>true
 |[w]=>w.toNat != 0
 |_::w::r=>cn (w::r)
theorem EE{w:UInt32}{r:Words}(h:cn (w::r)=true):cn r=true:=by
 cases r with
 |nil=>rfl
 |cons v r=>exact h
theorem qI:∀{l:Words},cn l=true→l≠[]→0<nat l
 |[],_,h=>absurd rfl h
 |[w],h,_=>by
  simp[cn] at h
  show 0<w.toNat+4294967296*0
  omega
 |w::v::r,h,_=>by
  have:=qI (l:=v::r) h (by simp)
  show 0<w.toNat+4294967296*nat (v::r)
  omega
theorem ME:∀{a b:Words},cn a=true→cn b=true→nat a=nat b→a=b
 |[],[],_,_,_=>rfl
 |[],w::r,_,hb,h=>by have:=qI hb (by simp);have h0:nat []=0:=rfl;omega
 |w::r,[],ha,_,h=>by have:=qI ha (by simp);have h0:nat []=0:=rfl;omega
 |w::r,v::s,ha,hb,h=>by
  have h:w.toNat+4294967296*nat r=v.toNat+4294967296*nat s:=h
  have h1:=jh w
  have h2:=jh v
  have h3:w.toNat=v.toNat:=by omega
  have h4:nat r=nat s:=by omega
  rw[RL h3,ME (EE ha) (EE hb) h4]
theorem Dt:∀(f n:Nat),n≤f→cn (r9 f n)=true
 |0,n,_=>rfl
 |f+1,n,h=>by
  unfold r9
  by_cases h0:n=0
  ·subst h0;rfl
  ·have:Nat.beq n 0=false:=by
    cases hb:Nat.beq n 0 with
    |true=>exact absurd (Nat.eq_of_beq_eq_true hb) h0
    |false=>rfl
   rw[this]
   show cn (UInt32.ofNat n::r9 f (n/4294967296))=true
   have ih:=Dt f (n/4294967296) (by omega)
   have hn:=vJ f (n/4294967296) (by omega)
   cases hr:r9 f (n/4294967296) with
   |nil =>
    rw[hr] at hn
    have hn:0=n/4294967296:=hn
    show((UInt32.ofNat n).toNat != 0)=true
    rw[ue]
    have:n%4294967296≠0:=by omega
    simpa using this
   |cons v r=>rw[hr] at ih;exact ih
theorem ix(n:Nat):cn (words n)=true:=Dt n n (Nat.le_refl n)
theorem tB{l:Words}{n:Nat}(hc:cn l=true)(h:nat l=n):words n=l:=ME (ix n) hc (by rw[aD,h])
theorem eZ{l:Words}(hc:cn l=true):words (nat l)=l:=tB hc rfl
theorem fF:words 0=[]:=rfl
theorem uf{n:Nat} : words n=[]↔n=0:=by
 constructor
 ·intro h;rw[←aD n,h];rfl
 ·intro h;subst h;rfl
theorem dK{n:Nat} : (words n).length=0↔n=0:=by rw[List.length_eq_zero_iff,uf]
theorem eL:∀l:Words,nat l<4294967296^l.length
 |[]=>by simp[nat]
 |w::r=>by
  have h1:=eL r
  have h2:=jh w
  show w.toNat+4294967296*nat r<4294967296^(r.length+1)
  rw[Nat.pow_succ]
  omega
theorem mR:∀a b:Words,nat (a++b)=nat a+4294967296^a.length*nat b
 |[],b=>by simp[nat]
 |w::r,b=>by
  show w.toNat+4294967296*nat (r++b)=w.toNat+4294967296*nat r+4294967296^(r.length+1)*nat b
  rw[mR r b,Nat.pow_succ,Nat.mul_add,←Nat.mul_assoc,Nat.mul_comm 4294967296 (4294967296^r.length)]
  omega
theorem j8(l:Words)(k:Nat)(h:k≤l.length):nat l=nat (l.take k)+4294967296^k*nat (l.drop k):=by
 conv=>lhs;rw[←List.take_append_drop k l]
 rw[mR,List.length_take,Nat.min_eq_left h]
theorem bY{l:Words}{k:Nat}{v:UInt32}(h:l[k]? = some v):nat (l.take (k+1))=nat (l.take k)+4294967296^k*v.toNat:=by
 have hk:k<l.length:=(List.getElem?_eq_some_iff.1 h).1
 rw[List.take_add_one,h]
 show nat (l.take k++[v])=_
 rw[mR,List.length_take,Nat.min_eq_left (Nat.le_of_lt hk)]
 simp[nat]
theorem re{l:Words}{k:Nat}{v:UInt32}(h:l[k]? = some v):nat (l.drop k)=v.toNat+4294967296*nat (l.drop (k+1)):=by
 have hk:k<l.length:=(List.getElem?_eq_some_iff.1 h).1
 have hv:l[k]=v:=by
  have:=List.getElem?_eq_getElem hk
  rw[h] at this;injection this with this;exact this.symm
 rw[List.drop_eq_getElem_cons hk,hv];rfl
theorem mS:∀n:Nat,nat (List.replicate n 0)=0
 |0=>rfl
 |n+1=>by
  show(0:UInt32).toNat+4294967296*nat (List.replicate n 0)=0
  rw[mS n];rfl
theorem qn:∀(l:Words) (k:Nat) (v u:UInt32),l[k]? = some u→nat (l.set k v)+4294967296^k*u.toNat=nat l+4294967296^k*v.toNat
 |[],k,v,u,h=>by simp at h
 |w::r,0,v,u,h=>by
  simp at h;subst h
  show v.toNat+4294967296*nat r+4294967296^0*w.toNat=w.toNat+4294967296*nat r+4294967296^0*v.toNat
  omega
 |w::r,k+1,v,u,h=>by
  have ih:=qn r k v u (by simpa using h)
  show w.toNat+4294967296*nat (r.set k v)+4294967296^(k+1)*u.toNat=w.toNat+4294967296*nat r+4294967296^(k+1)*v.toNat
  rw[Nat.pow_succ,Nat.mul_comm (4294967296^k) 4294967296,Nat.mul_assoc,Nat.mul_assoc]
  omega
theorem gQ{l:Words}{k:Nat}{v:UInt32}(h:k<l.length):nat ((l.set k v).take (k+1))=nat (l.take k)+4294967296^k*v.toNat:=by
 rw[bY (v:=v) (by simp[h]),List.take_set_of_le (Nat.le_refl k)]
theorem aQ{l:Words}{k:Nat}(h:l.length≤k):nat (l.take k)=nat l:=by rw[List.take_of_length_le h]
theorem e9{n k:Nat}(h:n<4294967296^k):(words n).length≤k:=by
 have key:∀(l:Words),cn l=true→∀k,nat l<4294967296^k→l.length≤k:=by
  intro l
  induction l with
  |nil=>intro _ k _;simp
  |cons w r ih =>
   intro hc k hk
   have hp:=qI hc (by simp)
   cases k with
   |zero=>simp at hk;omega
   |succ k =>
    have h1:w.toNat+4294967296*nat r<4294967296^(k+1):=hk
    rw[Nat.pow_succ] at h1
    have:=ih (EE hc) k (by omega)
    simp;omega
 exact key _ (ix n) k (by rw[aD];exact h)
theorem j9(n:Nat):n<4294967296^(words n).length:=by
 have:=eL (words n)
 rwa[aD] at this
theorem mg{a b:Nat}(h:a≤b):4294967296^a≤4294967296^b:=Nat.pow_le_pow_right (by omega) h
theorem ek{m n:Nat}(h:m≤n):(words m).length≤(words n).length:=e9 (Nat.lt_of_le_of_lt h (j9 n))
theorem BJ(l:Words):(words (nat l)).length≤l.length:=e9 (eL l)
theorem Gh{l:Words}(hc:cn l=true)(di:l≠[]):4294967296^(l.length-1)≤nat l:=by
 refine Nat.le_of_not_lt fun h => ?_
 have h1:=e9 h
 rw[eZ hc] at h1
 have:0<l.length:=List.length_pos_iff.2 di
 omega
theorem nd:∀{l:Words} {v:UInt32},l[l.length-1]? = some v→(cn l=true↔v.toNat≠0)
 |[],v,h=>by simp at h
 |[w],v,h=>by simp at h;subst h;simp[cn]
 |w::u::r,v,h=>by
  have h':(u::r)[(u::r).length-1]? = some v:=by
   simp only[List.length_cons,Nat.add_sub_cancel] at h ⊢
   rw[show r.length+1=(r.length)+1 from rfl,List.getElem?_cons_succ] at h
   exact h
  exact nd (l:=u::r) h'
open Go Path
abbrev Fit(l:Words):Prop:=l.length≤1099511627776
def au.valid(a:au):Bool:=bif a.cD.isEmpty then !a.neg else cn a.cD
def au.val(a:au):Int:=bif a.valid then (bif a.neg then -(nat a.cD:Int) else (nat a.cD:Int)) else 0
def whole(i:Int):au:=⟨decide (i<0),words i.natAbs⟩
theorem aw(i:Int):(whole i).val=i:=by
 unfold au.val au.valid whole
 simp only[aD]
 by_cases h:i=0
 ·subst h;rfl
 ·have h1:(words i.natAbs).isEmpty=false:=by
   rw[List.isEmpty_eq_false_iff]
   intro e
   rw[uf] at e
   omega
  rw[h1]
  simp only[cond_false,ix,cond_true]
  by_cases h2:i<0
  ·simp[h2];omega
  ·simp[h2];omega
theorem dB{l:Words} : l.isEmpty=decide (l.length=0):=by cases l<;>simp
namespace cP
theorem Valid(a:au)(h:Fit a.cD):Cp 220 [a.pv] (vB a.valid):=by
 unfold au.valid
 rw[dB]
 by_cases h0:a.cD.length=0
 ·simp only[h0,decide_true,cond_true]
  exact qG.e0 a h0
 ·simp only[h0,decide_false,cond_false]
  obtain⟨v,hv⟩:∃v,a.cD[a.cD.length-1]? = some v:=⟨_,List.getElem?_eq_getElem (by omega)⟩
  have:=qG.e1 a (a.cD.length-1) v h0 (by unfold ax;omega) (by omega) hv
  have e:cn a.cD=((v.toNat:Int) != 0):=by
   have h1:=nd hv
   by_cases h2:v.toNat=0
   ·have h3:((v.toNat:Int) != 0)=false:=by simp[h2]
    rw[h3]
    cases hc:cn a.cD with
    |true=>exact absurd h2 (h1.1 hc)
    |false=>rfl
   ·have h3:((v.toNat:Int) != 0)=true:=by simp;omega
    rw[h3];exact h1.2 h2
  rw[e];exact this
theorem Al(a:au):decide (a.val<0)=(a.valid&&a.neg):=by
 unfold au.val
 cases hv:a.valid with
 |false=>simp
 |true =>
  cases hn:a.neg with
  |false=>simp
  |true =>
   simp only[cond_true,Bool.and_true]
   unfold au.valid at hv
   have:0<nat a.cD:=by
    cases he:a.cD.isEmpty with
    |true=>rw[he,hn] at hv;cases hv
    |false =>
     rw[he] at hv
     exact qI hv (by rw[←List.isEmpty_eq_false_iff];exact he)
   simp;omega
theorem EF(a:au):words a.val.natAbs=bif a.valid then a.cD else []:=by
 unfold au.val
 cases hv:a.valid with
 |false=>rfl
 |true =>
  have hc:cn a.cD=true:=by
   unfold au.valid at hv
   cases he:a.cD.isEmpty with
   |true=>rw[List.isEmpty_iff] at he;rw[he];rfl
   |false=>rw[he] at hv;exact hv
  cases hn:a.neg with
  |false=>simp only[cond_true,cond_false,Int.natAbs_natCast];exact eZ hc
  |true=>simp only[cond_true,Int.natAbs_neg,Int.natAbs_natCast];exact eZ hc
theorem cD(a:au)(h:Fit a.cD):Cp 134 [a.pv] (aa (words a.val.natAbs)):=by
 rw[EF]
 cases hv:a.valid with
 |false=>exact tt.e0 a a.valid (Valid a h) hv
 |true=>exact tt.e1 a a.valid (Valid a h) hv
theorem neg(a:au)(h:Fit a.cD):Cp 135 [a.pv] (vB (decide (a.val<0))):=by
 rw[Al]
 cases hv:a.valid with
 |false=>exact tu.e1 a a.valid (Valid a h) hv
 |true=>rw[Bool.true_and];exact tu.e0 a a.valid (Valid a h) hv
theorem trim(m:Words)(h:m.length≤35184372088832):Cp 221 [aa m] (aa (words (nat m))):=by
 have loop:∀n:Nat,n≤m.length→nat (m.take n)=nat m→jZ.ah m (n:Int) (aa (words (nat m))):=by
  intro n
  induction n with
  |zero =>
   intro _ h2
   have:nat m=0:=by rw[←h2];rfl
   rw[this,fF]
   exact jZ.tq m _ (by omega) rfl
  |succ n ih =>
   intro h1 h2
   obtain⟨v,hv⟩:∃v,m[n]? = some v:=⟨_,List.getElem?_eq_getElem (by omega)⟩
   by_cases h0:v.toNat=0
   ·refine jZ.l10 m _ n v (by omega) (by unfold ax;omega) (by omega) hv h0 ?_
    rw[show ((n+1:Nat):Int)-1=(n:Int) from by omega]
    refine ih (by omega) ?_
    rw[bY hv,h0] at h2
    simpa using h2
   ·have:=jZ.kM m ((n+1:Nat):Int) n v (n+1) (by omega) (by unfold ax;omega) (by omega) hv h0 (by omega) rfl h1 (by simp;omega)
    have e:words (nat m)=m.take (n+1):=by
     refine tB ?_ h2
     refine(nd (v:=v) ?_).2 h0
     rw[List.length_take,Nat.min_eq_left h1,Nat.add_sub_cancel,List.getElem?_take,if_pos (by omega)]
     exact hv
    rw[e];exact this
 exact jZ.e0 m (loop m.length (Nat.le_refl _) (aQ (Nat.le_refl _)))
theorem whole(neg:Bool)(m:Words)(h:m.length≤35184372088832):Cp 136 [vB neg,aa m] (whole (bif neg then -(nat m:Int) else (nat m:Int))).pv:=by
 cases neg with
 |false =>
  have:=qF.e1 false m _ (trim m h) rfl
  have e:decide ((nat m:Int)<0)=false:=by simp
  simp only[Sym.whole,cond_false,e,Int.natAbs_natCast]
  exact this
 |true =>
  have:=qF.e0 true m _ (trim m h) rfl
  have e:decide (((words (nat m)).length:Int)>0)=decide (-(nat m:Int)<0):=by
   have:=dK (n:=nat m)
   by_cases h0:nat m=0
   ·have h1:=this.2 h0
    simp[h0,fF]
   ·have h1:¬(words (nat m)).length=0:=fun h=>h0 (this.1 h)
    rw[decide_eq_true (by omega),decide_eq_true (by omega)]
  rw[e] at this
  simpa[Sym.whole] using this
def wd(m:Words)(i:Nat):Nat:=match m[i]? with
 |some w=>w.toNat
 |none=>0
theorem nF(m:Words)(i:Nat):wd m i<4294967296:=by
 unfold wd
 cases m[i]? with
 |none=>simp
 |some w=>exact jh w
theorem jz{m:Words}{i:Nat}{v:UInt32}(h:m[i]? = some v):wd m i=v.toNat:=by unfold wd;rw[h]
theorem wW{m:Words}{i:Nat}(h:m.length≤i):wd m i=0:=by unfold wd;rw[List.getElem?_eq_none h]
theorem et(m:Words)(k:Nat):nat (m.take (k+1))=nat (m.take k)+4294967296^k*wd m k:=by
 by_cases h:k<m.length
 ·have hv:=List.getElem?_eq_getElem h
  rw[bY hv,jz hv]
 ·rw[aQ (by omega),aQ (by omega),wW (by omega)]
  omega
theorem word(m:Words)(i:Nat):Cp 222 [aa m,vI (i:Int)] (vU (wd m i)):=by
 unfold wd
 cases h:m[i]? with
 |none =>
  have:=List.getElem?_eq_none_iff.1 h
  exact rY.e1 m i (by omega)
 |some v =>
  have:=(List.getElem?_eq_some_iff.1 h).1
  exact rY.e0 m i i v (by omega) rfl h
theorem plus(a b:Words)(ha:a.length≤2199023255552)(hb:b.length≤2199023255552):Cp 137 [aa a,aa b] (aa (words (nat a+nat b))):=by
 have hm:max a.length b.length≤2199023255552:=by omega
 have loop:∀(j t carry:Nat) (site:Words),max a.length b.length+1-t=j→t≤max a.length b.length+1→site.length=max a.length b.length+1→carry≤1 →
   nat (site.take t)+4294967296^t*carry=nat (a.take t)+nat (b.take t)→lX.ah a b carry t site (aa (words (nat a+nat b))):=by
  intro j
  induction j with
  |zero =>
   intro t carry site hj ht hs hc hinv
   have wH:t=max a.length b.length+1:=by omega
   have Ip:nat site=nat a+nat b:=by
    rw[aQ (by omega),aQ (by omega),aQ (by omega)] at hinv
    have h1:=eL a
    have h2:=eL b
    have h3:=mg (show a.length≤t-1 by omega)
    have h4:=mg (show b.length≤t-1 by omega)
    have h5:(4294967296:Nat)^t=4294967296^(t-1)*4294967296:=by rw[←Nat.pow_succ];congr 1;omega
    have Am:carry=0:=by
     cases carry with
     |zero=>rfl
     |succ c =>
      have h6:4294967296^t*1≤4294967296^t*(c+1):=Nat.mul_le_mul_left _ (by omega)
      omega
    subst Am;simpa using hinv
   have:=lX.cR a b carry t site (words (nat site)) (by omega) (by omega) (trim site (by omega))
   rwa[Ip] at this
  |succ j ih =>
   intro t carry site hj ht hs hc hinv
   have h1:=nF a t
   have h2:=nF b t
   obtain⟨w,hw⟩:=iw ((carry+(wd a t+wd b t))%4294967296) (by omega)
   refine lX.l10 a b carry t site _ _ (wd a t+wd b t) (carry+(wd a t+wd b t)) w _ (by omega) (word a t) (word b t) (by omega) (by omega) hw.symm (by omega) rfl (by omega) ?_
   refine ih (t+1) _ (site.set t w) (by omega) (by omega) (by simpa using hs) (by simp;omega) ?_
   rw[gQ (by omega),et a t,et b t,hw]
   have h5:(4294967296:Nat)^(t+1)=4294967296^t*4294967296:=Nat.pow_succ ..
   rw[h5,Nat.mul_assoc]
   have h6:4294967296^t*((carry+(wd a t+wd b t))%4294967296)+4294967296^t*(4294967296*((carry+(wd a t+wd b t))/2^min 32 64))=4294967296^t*carry+4294967296^t*wd a t+4294967296^t*wd b t:=by
    rw[←Nat.mul_add,←Nat.mul_add,←Nat.mul_add]
    congr 1
    have:(2:Nat)^min 32 64=4294967296:=by decide
    rw[this];omega
   omega
 exact lX.e0 a b (by omega) (by omega) (loop _ 0 0 _ rfl (by omega) (by simp) (by omega) (by simp[nat]))
end cP
def dR(a b:Int):Int:=if a<b then -1 else if a=b then 0 else 1
theorem qo{a b:Int}(h:a<b):dR a b = -1:=by simp[dR,h]
theorem oo{a b:Int}(h:b<a):dR a b=1:=by unfold dR;rw[if_neg (by omega),if_neg (by omega)]
theorem An{a b:Int}(h:a=b):dR a b=0:=by unfold dR;rw[if_neg (by omega),if_pos h]
theorem x8(l:Words)(k:Nat){v:UInt32}(h:l[k]? = some v):nat l=nat (l.take k)+4294967296^k*v.toNat+4294967296^(k+1)*nat (l.drop (k+1)):=by
 have hk:=(List.getElem?_eq_some_iff.1 h).1
 rw[j8 l k (by omega),re h,Nat.pow_succ,Nat.mul_add,Nat.mul_assoc]
 omega
theorem BK{a b:Words}{k:Nat}{v w:UInt32}(ha:a[k]? = some v)(hb:b[k]? = some w)(hd:a.drop (k+1)=b.drop (k+1))(h:v.toNat<w.toNat):nat a<nat b:=by
 rw[x8 a k ha,x8 b k hb,hd]
 have h1:=eL (a.take k)
 have h2:=mg (show (a.take k).length≤k by simp;omega)
 have h3:4294967296^k*(v.toNat+1)≤4294967296^k*w.toNat:=Nat.mul_le_mul_left _ h
 rw[Nat.mul_add] at h3
 omega
namespace cP
theorem compare(a b:Words)(ha:cn a=true)(hb:cn b=true)(hl:a.length<9223372036854775808):Cp 138 [aa a,aa b] (vI (dR (nat a) (nat b))):=by
 by_cases hlen:a.length=b.length
 ·have loop:∀n:Nat,n≤a.length→a.drop n=b.drop n→dX.ah a b ((n:Int)-1) (vI (dR (nat a) (nat b))):=by
   intro n
   induction n with
   |zero =>
    intro _ hd
    have:a=b:=by simpa using hd
    rw[An (by rw[this])]
    exact dX.tq a b _ (by omega)
   |succ n ih =>
    intro hn hd
    obtain⟨v,hv⟩:∃v,a[n]? = some v:=⟨_,List.getElem?_eq_getElem (by omega)⟩
    obtain⟨w,hw⟩:∃w,b[n]? = some w:=⟨_,List.getElem?_eq_getElem (by omega)⟩
    by_cases he:v.toNat=w.toNat
    ·refine dX.kM a b _ n v n w (by omega) (by omega) hv (by omega) hw he (by unfold ax;omega) ?_
     rw[show ((n+1:Nat):Int)-1-1=(n:Int)-1 from by omega]
     refine ih (by omega) ?_
     have h1:=List.getElem_of_getElem? hv
     obtain⟨h1,h2⟩:=List.getElem?_eq_some_iff.1 hv
     obtain⟨h3,h4⟩:=List.getElem?_eq_some_iff.1 hw
     rw[List.drop_eq_getElem_cons h1,List.drop_eq_getElem_cons h3,h2,h4,hd,RL he]
    ·by_cases ba:v.toNat<w.toNat
     ·rw[qo (by have:=BK hv hw hd ba;omega)]
      exact dX.l10 a b _ n v n w n v n w (by omega) (by omega) hv (by omega) hw he (by omega) hv (by omega) hw ba
     ·rw[oo (by have:=BK hw hv hd.symm (by omega);omega)]
      exact dX.cR a b _ n v n w n v n w (by omega) (by omega) hv (by omega) hw he (by omega) hv (by omega) hw (by omega)
  refine dX.e2 a b hlen (by unfold ax;omega) (loop a.length (Nat.le_refl _) ?_)
  rw[List.drop_of_length_le (Nat.le_refl _),List.drop_of_length_le (by omega)]
 ·have key:∀x y:Words,cn y=true→x.length<y.length→nat x<nat y:=by
   intro x y hy ba
   have h1:=eL x
   have h2:=Gh hy (by intro e;rw[e] at ba;simp at ba)
   have h3:=mg (show x.length≤y.length-1 by omega)
   omega
  by_cases ba:a.length<b.length
  ·rw[qo (by have:=key a b hb ba;omega)]
   exact dX.e0 a b hlen ba
  ·rw[oo (by have:=key b a ha (by omega);omega)]
   exact dX.e1 a b hlen (by omega)
theorem less(a b:Words)(ha:a.length≤2199023255552)(dF:nat b≤nat a):Cp 139 [aa a,aa b] (aa (words (nat a-nat b))):=by
 have loop:∀(j t borrow:Nat) (site:Words),a.length-t=j→t≤a.length→site.length=a.length→borrow≤1 →
   nat (site.take t)+nat (b.take t)=nat (a.take t)+4294967296^t*borrow→lZ.ah a b borrow t site (aa (words (nat a-nat b))):=by
  intro j
  induction j with
  |zero =>
   intro t borrow site hj ht hs hc hinv
   have wH:t=a.length:=by omega
   have Ip:nat site=nat a-nat b:=by
    subst wH
    rw[aQ (by omega),aQ (l:=a) (by omega)] at hinv
    have h1:=eL a
    have h2:=eL site
    rw[hs] at h2
    have h3:nat (b.take a.length)=nat b:=by
     by_cases hl:b.length≤a.length
     ·exact aQ hl
     ·have h4:=j8 b a.length (by omega)
      have h5:nat (b.drop a.length)=0:=by
       refine Nat.eq_zero_of_not_pos fun hp => ?_
       have:=Nat.mul_le_mul_left (4294967296^a.length) hp
       omega
      rw[h5] at h4;omega
    have Jw:borrow=0:=by
     refine Nat.eq_zero_of_not_pos fun hp => ?_
     have:=Nat.mul_le_mul_left (4294967296^a.length) hp
     omega
    subst Jw
    omega
   have:=lZ.cR a b borrow t site (words (nat site)) (by omega) (by omega) (trim site (by omega))
   rwa[Ip] at this
  |succ j ih =>
   intro t borrow site hj ht hs hc hinv
   obtain⟨v,hv⟩:∃v,a[t]? = some v:=⟨_,List.getElem?_eq_getElem (by omega)⟩
   have h1:=jh v
   have h2:=nF b t
   have hz:∃(d d1 x nb:Nat),((v.toNat:Nat)-(wd b t:Nat):Int)%18446744073709551616=(d:Int)∧((d:Nat)-(borrow:Nat):Int)%18446744073709551616=(d1:Int)∧d1%4294967296=x∧d1/2^min 63 64=nb∧nb≤1∧x<4294967296∧x+wd b t+borrow=v.toNat+4294967296*nb:=by
    refine⟨(((v.toNat:Nat)-(wd b t:Nat):Int)%18446744073709551616).toNat,((((v.toNat:Nat)-(wd b t:Nat):Int)%18446744073709551616-borrow)%18446744073709551616).toNat,_,_,by omega,by omega,rfl,rfl,?_⟩
    have e:(2:Nat)^min 63 64=9223372036854775808:=by decide
    rw[e]
    generalize wd b t=q at *
    generalize v.toNat=p at *
    by_cases PZ:q+borrow≤p
    ·have e1:(((p:Int)-(q:Int))%18446744073709551616-borrow)%18446744073709551616=(p:Int)-q-borrow:=by omega
     rw[e1];omega
    ·have e1:(((p:Int)-(q:Int))%18446744073709551616-borrow)%18446744073709551616=(p:Int)-q-borrow+18446744073709551616:=by omega
     rw[e1];omega
   obtain⟨d,d1,x,nb,g1,g2,g3,g4,g5,g6,g7⟩:=hz
   obtain⟨w,hw⟩:=iw x g6
   refine lZ.l10 a b borrow t site v _ d d1 w nb (by omega) hv (word b t) g1 g2 (by omega) (by omega) g4 (by omega) ?_
   refine ih (t+1) nb (site.set t w) (by omega) (by omega) (by simpa using hs) g5 ?_
   rw[gQ (by omega),bY hv,et b t,hw,Nat.pow_succ,Nat.mul_assoc]
   have h6:4294967296^t*x+4294967296^t*wd b t+4294967296^t*borrow=4294967296^t*v.toNat+4294967296^t*(4294967296*nb):=by
    rw[←Nat.mul_add,←Nat.mul_add,←Nat.mul_add,g7]
   omega
 exact lZ.e0 a b (by omega) (loop _ 0 0 _ rfl (by omega) (by simp) (by omega) (by simp[nat]))
theorem wX{p q:Nat}(hp:p<4294967296)(hq:q<4294967296):p*q≤18446744065119617025:=by
 have:=Nat.mul_le_mul (show p≤4294967295 by omega) (show q≤4294967295 by omega)
 omega
theorem times(a b:Words)(ha:a.length≤2199023255552)(hb:b.length≤2199023255552):Cp 173 [aa a,aa b] (aa (words (nat a*nat b))):=by
 have inner:∀(i:Nat) (v:UInt32) (r:PV),i<a.length→(∀site:Words,site.length=a.length+b.length→nat site=nat (a.take i)*nat b+4294967296^i*(v.toNat*nat b)→(∀q,i+1+b.length≤q→q<site.length→wd site q=0)→fg.ah b a (i+1) site r) →
   ∀(j k carry:Nat) (site:Words),b.length-k=j→k≤b.length→site.length=a.length+b.length→carry<4294967296→(∀q,i+b.length≤q→q<site.length→wd site q=0) →
   nat site+4294967296^(i+k)*carry=nat (a.take i)*nat b+4294967296^i*(v.toNat*nat (b.take k))→fg.bK b a i v carry i k site r:=by
  intro i v r hi HT j
  induction j with
  |zero =>
   intro k carry site hj hk hs hc hz hinv
   have WU:k=b.length:=by omega
   subst WU
   obtain⟨w,hw⟩:=iw carry hc
   refine fg.CN b a i v carry i b.length site w (by omega) (by omega) (by omega) (by omega) (by omega) (by omega) (HT _ (by simpa using hs) ?_ ?_)
   ·obtain⟨u,hu⟩:∃u,site[i+b.length]? = some u:=⟨_,List.getElem?_eq_getElem (by omega)⟩
    have h0:=hz (i+b.length) (by omega) (by omega)
    rw[jz hu] at h0
    have h1:=qn site (i+b.length) w u hu
    rw[h0,hw] at h1
    rw[aQ (l:=b) (by omega)] at hinv
    omega
   ·intro q SQ Hn
    rw[List.length_set] at Hn
    have:=hz q (by omega) Hn
    unfold wd at this ⊢
    rw[List.getElem?_set_ne (by omega)]
    exact this
  |succ j ih =>
   intro k carry site hj hk hs hc hz hinv
   obtain⟨u,hu⟩:∃u,b[k]? = some u:=⟨_,List.getElem?_eq_getElem (by omega)⟩
   obtain⟨x,hx⟩:∃x,site[i+k]? = some x:=⟨_,List.getElem?_eq_getElem (by omega)⟩
   have h1:=wX (jh v) (jh u)
   have h2:=jh x
   generalize hp:v.toNat*u.toNat=p at *
   obtain⟨w,hw⟩:=iw ((carry+(p+x.toNat))%4294967296) (by omega)
   have e:(2:Nat)^min 32 64=4294967296:=by decide
   refine fg.Ac b a i v carry i k site u p x (p+x.toNat) (carry+(p+x.toNat)) w ((carry+(p+x.toNat))/4294967296) (by omega) hu (by rw[hp];omega) (by omega) (by omega) hx (by omega) (by omega) hw.symm (by omega) (by rw[e]) (by omega) ?_
   refine ih (k+1) _ (site.set (i+k) w) (by omega) (by omega) (by simpa using hs) (by omega) ?_ ?_
   ·intro q SQ Hn
    rw[List.length_set] at Hn
    have:=hz q SQ Hn
    unfold wd at this ⊢
    rw[List.getElem?_set_ne (by omega)]
    exact this
   ·have g1:=qn site (i+k) w x hx
    rw[hw] at g1
    rw[bY hu,show i+(k+1)=i+k+1 from rfl,Nat.pow_succ,Nat.mul_assoc]
    have g2:4294967296^(i+k)*((carry+(p+x.toNat))%4294967296)+4294967296^(i+k)*(4294967296*((carry+(p+x.toNat))/4294967296))=4294967296^(i+k)*carry+4294967296^(i+k)*p+4294967296^(i+k)*x.toNat:=by
     rw[←Nat.mul_add,←Nat.mul_add,←Nat.mul_add];congr 1;omega
    have g3:4294967296^i*(v.toNat*(nat (b.take k)+4294967296^k*u.toNat))=4294967296^i*(v.toNat*nat (b.take k))+4294967296^(i+k)*p:=by
     rw[←hp,Nat.pow_add,Nat.mul_add,Nat.mul_add]
     congr 1
     rw[Nat.mul_assoc];congr 1
     rw[Nat.mul_left_comm]
    omega
 have loop:∀(j t:Nat) (site:Words),a.length-t=j→t≤a.length→site.length=a.length+b.length→nat site=nat (a.take t)*nat b→(∀q,t+b.length≤q→q<site.length→wd site q=0) →
   fg.ah b a t site (aa (words (nat a*nat b))):=by
  intro j
  induction j with
  |zero =>
   intro t site hj ht hs hinv _
   rw[aQ (by omega)] at hinv
   have:=fg.cR b a t site (words (nat site)) (by omega) (by omega) (trim site (by omega))
   rwa[hinv] at this
  |succ j ih =>
   intro t site hj ht hs hinv hz
   obtain⟨v,hv⟩:∃v,a[t]? = some v:=⟨_,List.getElem?_eq_getElem (by omega)⟩
   refine fg.l10 b a t site v (by omega) hv ?_
   refine inner t v _ (by omega) (fun MF Kk Tp N0 => ?_) _ 0 0 site rfl (by omega) hs (by omega) hz ?_
   ·refine ih (t+1) MF (by omega) (by omega) Kk ?_ N0
    rw[Tp,bY hv,Nat.add_mul,Nat.mul_assoc]
   ·simp[nat,hinv]
 refine fg.e0 a b (by omega) (by omega) (loop _ 0 _ rfl (by omega) (by simp) (by simp[nat,mS]) ?_)
 intro q _ hq
 unfold wd
 rw[List.getElem?_replicate]
 split
 ·rename_i w h
  split at h
  ·injection h with h;subst h;rfl
  ·cases h
 ·rfl
theorem EG{x y:Nat}(hx:x<4294967296)(hy:y<4294967296):((x*4294967296)%18446744073709551616) ||| (y%18446744073709551616)=x*4294967296+y:=by
 rw[Nat.mod_eq_of_lt (by omega),Nat.mod_eq_of_lt (by omega),Nat.mul_comm]
 exact(Nat.two_pow_add_eq_or_of_lt (i:=32) hy x).symm
theorem short(a:Words)(b:UInt32)(ha:a.length≤2199023255552)(hb:b.toNat≠0):Cp 214 [aa a,vW b] (.aB [aa (words (nat a/b.toNat)),vW (UInt32.ofNat (nat a%b.toNat))]):=by
 have RI:=jh b
 have loop:∀(n rest:Nat) (site:Words),n≤a.length→site.length=a.length→rest<b.toNat→nat (a.drop n)=nat (site.drop n)*b.toNat+rest →
   kB.ah a b rest ((n:Int)-1) site (.aB [aa (words (nat a/b.toNat)),vW (UInt32.ofNat (nat a%b.toNat))]):=by
  intro n
  induction n with
  |zero =>
   intro rest site _ hs hr hinv
   simp only[List.drop_zero] at hinv
   have h1:nat a/b.toNat=nat site:=by rw[hinv,Nat.mul_comm,Nat.mul_add_div (by omega),Nat.div_eq_of_lt hr,Nat.add_zero]
   have h2:nat a%b.toNat=rest:=by rw[hinv,Nat.mul_comm,Nat.mul_add_mod,Nat.mod_eq_of_lt hr]
   have hw:rest%4294967296=(UInt32.ofNat rest).toNat:=(ue rest).symm
   rw[h1,h2]
   exact kB.cR a b rest _ site (words (nat site)) _ (by omega) hs.symm (trim site (by omega)) hw
  |succ n ih =>
   intro rest site hn hs hr hinv
   obtain⟨v,hv⟩:∃v,a[n]? = some v:=⟨_,List.getElem?_eq_getElem (by omega)⟩
   have AN:=jh v
   have e:(2:Nat)^min 32 64=4294967296:=by decide
   have hq:(rest*4294967296+v.toNat)/b.toNat<4294967296:=by
    rw[Nat.div_lt_iff_lt_mul (by omega)]
    have:=Nat.mul_le_mul_right 4294967296 (show rest+1≤b.toNat by omega)
    rw[Nat.add_mul] at this
    rw[Nat.mul_comm 4294967296];omega
   obtain⟨w,hw⟩:=iw _ hq
   refine kB.l10 a b rest _ site _ n v (rest*4294967296+v.toNat) ((rest*4294967296+v.toNat)/b.toNat) w n ((rest*4294967296+v.toNat)%b.toNat) (by omega) rfl (by omega) hv ?_ hb (by omega) (by omega) (by omega) (by omega) (by omega) rfl (by unfold ax;omega) ?_
   ·rw[e,Nat.mod_eq_of_lt (show rest*4294967296<18446744073709551616 by omega)]
    exact(by have:=EG (show rest<4294967296 by omega) AN;rw[Nat.mod_eq_of_lt (show rest*4294967296<18446744073709551616 by omega)] at this;rw[Nat.mod_eq_of_lt (show rest*4294967296<18446744073709551616 by omega)];exact this)
   ·rw[show ((n+1:Nat):Int)-1-1=(n:Int)-1 from by omega]
    refine ih _ (site.set n w) (by omega) (by simpa using hs) (Nat.mod_lt _ (by omega)) ?_
    rw[re hv,re (l:=site.set n w) (v:=w) (by rw[List.getElem?_set_self (by omega)]),List.drop_set_of_lt (by omega),hinv,hw]
    have h5:=Nat.div_add_mod (rest*4294967296+v.toNat) b.toNat
    generalize (rest*4294967296+v.toNat)/b.toNat=q at *
    generalize (rest*4294967296+v.toNat)%b.toNat=m at *
    generalize nat (site.drop (n+1))=S at *
    generalize b.toNat=B at *
    rw[Nat.add_mul,Nat.mul_add,Nat.mul_comm q B]
    rw[←Nat.mul_assoc]
    omega
 have:=kB.e0 a b (r:=_) (by omega) (by unfold ax;omega) (loop a.length 0 _ (Nat.le_refl _) (by simp) (by omega) (by rw[List.drop_of_length_le (Nat.le_refl _),List.drop_of_length_le (by simp)];simp[nat]))
 exact this
end cP
def blen(n:Nat):Nat:=bif Nat.beq n 0 then 0 else Nat.log2 n+1
theorem OZ{n k:Nat}(h1:2^k≤n)(h2:n<2^(k+1)):blen n=k+1:=by
 have h0:n≠0:=by have:=Nat.two_pow_pos k;omega
 have hb:Nat.beq n 0=false:=by
  cases hb:Nat.beq n 0 with
  |true=>exact absurd (Nat.eq_of_beq_eq_true hb) h0
  |false=>rfl
 unfold blen
 rw[hb,cond_false]
 congr 1
 have g1:=(Nat.le_log2 h0).2 h1
 have g2:=(Nat.log2_lt h0).2 h2
 omega
theorem ug:blen 0=0:=rfl
theorem uh{n:Nat}(h:n≠0):∃k,blen n=k+1∧2^k≤n∧n<2^(k+1):=by
 have hb:Nat.beq n 0=false:=by
  cases hb:Nat.beq n 0 with
  |true=>exact absurd (Nat.eq_of_beq_eq_true hb) h
  |false=>rfl
 refine⟨Nat.log2 n,?_,Nat.log2_self_le h,Nat.lt_log2_self⟩
 unfold blen
 rw[hb,cond_false]
theorem tC{n k:Nat}(h:2^k≤n):blen n=k+blen (n/2^k):=by
 have hk:=Nat.two_pow_pos k
 have h0:n/2^k≠0:=by
  have:=Nat.div_pos h hk
  omega
 obtain⟨m,h1,h2,h3⟩:=uh h0
 have:=OZ (n:=n) (k:=k+m) (by
  rw[Nat.pow_add]
  have:=Nat.mul_le_mul_left (2^k) h2
  have:=Nat.mul_div_le n (2^k)
  omega) (by
  have h4:=(Nat.div_lt_iff_lt_mul hk).1 h3
  rw[←Nat.pow_add] at h4
  rw[show k+m+1=m+1+k from by omega]
  exact h4)
 omega
theorem se{n k:Nat}(h:n<2^k):blen n≤k:=by
 by_cases h0:n=0
 ·subst h0;simp[ug]
 ·obtain⟨m,h1,h2,_⟩:=uh h0
  have:=(Nat.pow_lt_pow_iff_right (a:=2) (by omega)).1 (Nat.lt_of_le_of_lt h2 h)
  omega
theorem O0(n:Nat):n<2^blen n:=by
 by_cases h0:n=0
 ·subst h0;simp[ug]
 ·obtain⟨m,h1,_,h3⟩:=uh h0
  rw[h1];exact h3
namespace P7
def YE:ByteArray:=(ByteArray.mk #[0,1,2,2,3,3,3,3,4,4,4,4,4,4,4,4,5,5,5,5,5,5,5,5,5,5,5,5,5,5,5,5,6,6,6,6,6,6,6,6,6,6,6,6,6,6,6,6,6,6,6,6,6,6,6,6,6,6,6,6,6,6,6,6,7,7,7,7,7,7,7,7,7,7,7,7,7,7,7,7,7,7,7,7,7,7,7,7,7,7,7,7,7,7,7,7,7,7,7,7,7,7,7,7,7,7,7,7,7,7,7,7,7,7,7,7,7,7,7,7,7,7,7,7,7,7,7,7,8,8,8,8,8,8,8,8,8,8,8,8,8,8,8,8,8,8,8,8,8,8,8,8,8,8,8,8,8,8,8,8,8,8,8,8,8,8,8,8,8,8,8,8,8,8,8,8,8,8,8,8,8,8,8,8,8,8,8,8,8,8,8,8,8,8,8,8,8,8,8,8,8,8,8,8,8,8,8,8,8,8,8,8,8,8,8,8,8,8,8,8,8,8,8,8,8,8,8,8,8,8,8,8,8,8,8,8,8,8,8,8,8,8,8,8,8,8,8,8,8,8,8,8,8,8,8,8])
theorem O1:(List.range 256).all (fun m=>((YE.data.toList[m]?).map fun b=>(b.toNat:Int))==some (blen m:Int))=true:=by decide +kernel
theorem EH{m:Nat}(h:m<256):((YE.data.toList[m]?).map fun b=>(b.toNat:Int))=some (blen m:Int):=by
 have:=O1
 rw[List.all_eq_true] at this
 simpa using this m (by simpa using h)
theorem T0(x:UInt32):Cp 292 [vW x] (vI (blen x.toNat)):=by
 have hx:=jh x
 have YF:(2:Nat)^min 16 32=65536:=by decide
 have e8:(2:Nat)^min 8 32=256:=by decide
 by_cases h1:65536≤x.toNat
 ·obtain⟨z,hz⟩:=iw (x.toNat/65536) (by omega)
  have b1:=tC (n:=x.toNat) (k:=16) h1
  rw[show (2:Nat)^16=65536 from rfl] at b1
  by_cases h2:256≤x.toNat/65536
  ·obtain⟨z1,Gi⟩:=iw (x.toNat/65536/256) (by omega)
   have b2:=tC (n:=x.toNat/65536) (k:=8) h2
   rw[show (2:Nat)^8=256 from rfl] at b2
   have b3:=se (n:=x.toNat/65536/256) (k:=8) (by rw[show (2:Nat)^8=256 from rfl];omega)
   have:=jd.e0 x z z1 (x.toNat/65536/256) (blen (x.toNat/65536/256)) h1 (by rw[YF,hz]) (by omega) (by rw[e8,Gi,hz]) (by omega) (EH (by omega)) (by omega) (by omega)
   rw[b1,b2,←Nat.add_assoc];exact this
  ·have b3:=se (n:=x.toNat/65536) (k:=8) (by rw[show (2:Nat)^8=256 from rfl];omega)
   have:=jd.e1 x z (x.toNat/65536) (blen (x.toNat/65536)) h1 (by rw[YF,hz]) (by omega) (by omega) (EH (by omega)) (by omega) (by omega)
   rw[b1];exact this
 ·by_cases h2:256≤x.toNat
  ·obtain⟨z,hz⟩:=iw (x.toNat/256) (by omega)
   have b1:=tC (n:=x.toNat) (k:=8) h2
   rw[show (2:Nat)^8=256 from rfl] at b1
   have b3:=se (n:=x.toNat/256) (k:=8) (by rw[show (2:Nat)^8=256 from rfl];omega)
   have:=jd.e2 x z (x.toNat/256) (blen (x.toNat/256)) (by omega) h2 (by rw[e8,hz]) (by omega) (EH (by omega)) (by omega) (by omega)
   rw[b1];exact this
  ·have b3:=se (n:=x.toNat) (k:=8) (by rw[show (2:Nat)^8=256 from rfl];omega)
   have:=jd.e3 x x.toNat (blen x.toNat) (by omega) (by omega) (by omega) (EH (by omega)) (by omega) (by omega)
   rw[Nat.zero_add] at this;exact this
theorem BL(x:UInt32):Cp 269 [vW x] (vI ((32-blen x.toNat:Nat):Int)):=by
 have h:=se (n:=x.toNat) (k:=32) (jh x)
 have:=kC.e0 x _ (T0 x) (by unfold ax;omega)
 rw[show ((32-blen x.toNat:Nat):Int)=32-(blen x.toNat:Int) from by omega]
 exact this
end P7
theorem Du{s:Nat}(hs:s≤32):2^s*2^(32-s)=4294967296:=by
 rw[←Nat.pow_add,show s+(32-s)=32 from by omega]
namespace cP
theorem O2{v1 v:Nat}{s:Nat}(hs:s<32)(h1:v1<2^s)(hv:v<4294967296) :
  ∃y w z x,(v*2^min s 64)%18446744073709551616=y∧y%4294967296=w∧(v1%4294967296) ||| (w%4294967296)=z∧z<4294967296∧y/4294967296=x∧x<2^s∧w<4294967296∧z+4294967296*x=v1+v*2^s:=by
 have e:=Du (show s≤32 by omega)
 have hp:=Nat.two_pow_pos s
 have hle:2^s≤2147483648:=by
  have:=Nat.pow_le_pow_right (n:=2) (by omega) (show s≤31 by omega)
  simpa using this
 have LN:min s 64=s:=by omega
 rw[LN]
 have hb:v*2^s<18446744073709551616:=by
  have:=Nat.mul_le_mul (show v≤4294967295 by omega) hle
  omega
 rw[Nat.mod_eq_of_lt hb]
 generalize hP:2^s=p at *
 generalize hQ:2^(32-s)=q at *
 have hw:(v*p)%4294967296=p*(v%q):=by rw[←e,Nat.mul_comm v p,Nat.mul_mod_mul_left]
 have hx:(v*p)/4294967296=v/q:=by rw[←e,Nat.mul_comm v p,Nat.mul_div_mul_left _ _ hp]
 have hq:0<q:=by rw[←hQ];exact Nat.two_pow_pos _
 have hm:=Nat.mod_lt v hq
 have ba:p*(v%q)+p≤4294967296:=by
  have:=Nat.mul_le_mul_left p (show v%q+1≤q by omega)
  rw[Nat.mul_add,e] at this;omega
 have SR:v1 ||| p*(v%q)=p*(v%q)+v1:=by
  rw[Nat.or_comm]
  subst hP
  exact(Nat.two_pow_add_eq_or_of_lt h1 (v%q)).symm
 refine⟨_,_,_,_,rfl,rfl,rfl,?_,rfl,?_,by omega,?_⟩
 ·rw[hw,Nat.mod_eq_of_lt (show v1<4294967296 by omega),Nat.mod_eq_of_lt (show p*(v%q)<4294967296 by omega),SR];omega
 ·rw[hx,Nat.div_lt_iff_lt_mul hq,e];exact hv
 ·rw[hw,Nat.mod_eq_of_lt (show v1<4294967296 by omega),Nat.mod_eq_of_lt (show p*(v%q)<4294967296 by omega),SR,hx]
  have:=Nat.div_add_mod v q
  have h3:p*v=p*(q*(v/q))+p*(v%q):=by rw[←Nat.mul_add,this]
  rw[←Nat.mul_assoc,e] at h3
  rw[Nat.mul_comm v p];omega
def O3(a:Words)(s t:Nat)(site:Words):Prop:=site.length=a.length+1∧nat site=nat (a.take t)*2^s∧(∀q,t<q→q<site.length→wd site q=0)∧wd site t<2^s
theorem O4{a:Words}{s t:Nat}{site:Words}{v v1 z x:UInt32}(hi:O3 a s t site)(ht:t<a.length)(hv:a[t]? = some v)(BM:site[t]? = some v1)(hx:x.toNat<2^s)(he:z.toNat+4294967296*x.toNat=v1.toNat+v.toNat*2^s) :
  O3 a s (t+1) ((site.set t z).set (t+1) x):=by
 obtain⟨h1,h2,h3,h4⟩:=hi
 refine⟨by simpa using h1,?_,fun q SQ Hn => ?_,?_⟩
 ·obtain⟨u,hu⟩:∃u,(site.set t z)[t+1]? = some u:=⟨_,List.getElem?_eq_getElem (by simp;omega)⟩
  have Ol:u.toNat=0:=by
   have:=h3 (t+1) (by omega) (by omega)
   rw[List.getElem?_set_ne (by omega)] at hu
   rw[jz hu] at this;exact this
  have g1:=qn site t z v1 BM
  have g2:=qn (site.set t z) (t+1) x u hu
  rw[Ol,Nat.mul_zero,Nat.add_zero,Nat.pow_succ,Nat.mul_assoc] at g2
  rw[bY hv,Nat.add_mul,←h2]
  have g3:4294967296^t*z.toNat+4294967296^t*(4294967296*x.toNat)=4294967296^t*v1.toNat+4294967296^t*v.toNat*2^s:=by
   rw[←Nat.mul_add,he,Nat.mul_add,Nat.mul_assoc]
  omega
 ·rw[List.length_set,List.length_set] at Hn
  have:=h3 q (by omega) Hn
  unfold wd at this ⊢
  rw[List.getElem?_set_ne (by omega),List.getElem?_set_ne (by omega)]
  exact this
 ·rw[jz (v:=x) (by rw[List.getElem?_set_self (by simp;omega)])];exact hx
theorem O5(a:Words)(s:Nat):O3 a s 0 (List.replicate (a.length+1) (0:UInt32)):=by
 refine⟨by simp,by simp[nat,mS],fun q _ hq => ?_,?_⟩
 ·unfold wd
  rw[List.getElem?_replicate]
  rw[List.length_replicate] at hq
  rw[if_pos hq];rfl
 ·unfold wd
  rw[List.getElem?_replicate,if_pos (by omega)]
  exact Nat.two_pow_pos s
theorem up(a:Words)(s:Nat)(ha:a.length≤2199023255552)(hs:s<32):∃z:Words,z.length=a.length+1∧nat z=nat a*2^s∧Cp 270 [aa a,vI (s:Int)] (aa z) ∧
  av bp 270 [.pv (aa a),.pv (vI (s:Int))] [] (.row 0 0 (a.length+1) 1) [(0,(.pure ((z:List UInt32).map ag).flatten))]:=by
 have loop:∀(j t:Nat) (site:Words),a.length-t=j→t≤a.length→O3 a s t site →
   ∃z:Words,z.length=a.length+1∧nat z=nat a*2^s∧oP.ah (s:Int) a t site (aa z)∧nv.ah (s:Int) a t site [] (.row 0 0 (a.length+1) 1) [(0,(.pure ((z:List UInt32).map ag).flatten))]:=by
  intro j
  induction j with
  |zero =>
   intro t site hj ht hi
   obtain⟨h1,h2,_,_⟩:=hi
   rw[aQ (by omega)] at h2
   exact⟨site,h1,h2,oP.cR _ a t site (by omega) h1.symm,by have h9:=nv.cR (s:Int) a t site (sin:=[]) rfl rfl (by omega);rw[List.take_of_length_le (by omega)] at h9;exact h9⟩
  |succ j ih =>
   intro t site hj ht hi
   obtain⟨v,hv⟩:∃v,a[t]? = some v:=⟨_,List.getElem?_eq_getElem (by omega)⟩
   obtain⟨v1,BM⟩:∃v1,site[t]? = some v1:=⟨_,List.getElem?_eq_getElem (by have:=hi.1;omega)⟩
   have WV:v1.toNat<2^s:=by have:=hi.2.2.2;rw[jz BM] at this;exact this
   obtain⟨y,w,z,x,g1,g2,g3,g4,g5,g6,g7,g8⟩:=O2 hs WV (jh v)
   obtain⟨w',YG⟩:=iw w g7
   obtain⟨z',N0⟩:=iw z g4
   have hp:=Nat.pow_le_pow_right (n:=2) (by omega) (show s≤32 by omega)
   have hp:2^s≤4294967296:=hp
   obtain⟨x',D8⟩:=iw x (by omega)
   have e:(2:Nat)^min 32 64=4294967296:=by decide
   have hlen:=hi.1
   obtain⟨zz,q1,q2,q3,q4⟩:=ih (t+1) _ (by omega) (by omega) (O4 hi (by omega) hv BM (x:=x') (z:=z') (by omega) (by rw[N0,D8];exact g8))
   refine⟨zz,q1,q2,?_,?_⟩
   ·exact oP.l10 _ a t site v s y v1 w' z' x x' (by omega) hv rfl g1 (by omega) BM (by omega) (by rw[YG];omega) (by omega) (by omega) (by rw[e];exact g5) (by omega) (by omega) (by simp;omega) q3
   ·exact nv.l10 _ a t site v s y v1 w' z' x x' rfl (by omega) hv rfl g1 (by omega) BM (by omega) (by rw[YG];omega) (by omega) (by omega) (by rw[e];exact g5) (by omega) (by omega) (by simp;omega) q4
 obtain⟨z,h1,h2,h3,h4⟩:=loop a.length 0 _ rfl (by omega) (O5 a s)
 exact⟨z,h1,h2,oP.e0 a _ (by omega) (by omega) h3,nv.e0 a _ (by omega) (by omega) h4⟩
theorem O6{x y:Nat}(hx:x<4294967296)(hy:y<4294967296):(x%18446744073709551616) ||| ((y*4294967296)%18446744073709551616%18446744073709551616)=y*4294967296+x:=by
 rw[Nat.or_comm,Nat.mod_mod];exact EG hy hx
theorem jM(a:Words)(t:Nat):nat (a.drop t)=wd a t+4294967296*nat (a.drop (t+1)):=by
 by_cases h:t<a.length
 ·have hv:=List.getElem?_eq_getElem h
  rw[re hv,jz hv]
 ·rw[List.drop_of_length_le (by omega),List.drop_of_length_le (by omega),wW (by omega)];rfl
theorem tD(a:Words)(t:Nat)(ht:t≤a.length):nat a/4294967296^t=nat (a.drop t):=by
 have h1:=eL (a.take t)
 rw[List.length_take,Nat.min_eq_left ht] at h1
 rw[j8 a t ht,Nat.add_comm,Nat.mul_add_div (by omega),Nat.div_eq_of_lt h1,Nat.add_zero]
theorem down(a:Words)(s:Nat)(ha:a.length≤2199023255552)(hs:s<32):Cp 273 [aa a,vI (s:Int)] (aa (words (nat a/2^s))):=by
 have hp:=Nat.two_pow_pos s
 have e2:=Du (show s≤32 by omega)
 have loop:∀(j t:Nat) (site:Words),a.length-t=j→t≤a.length→site.length=a.length→nat (site.take t)=(nat a/2^s)%4294967296^t→l5.ah a (s:Int) t site (aa (words (nat a/2^s))):=by
  intro j
  induction j with
  |zero =>
   intro t site hj ht hl hinv
   have wH:t=a.length:=by omega
   subst wH
   rw[aQ (by omega),Nat.mod_eq_of_lt (Nat.lt_of_le_of_lt (Nat.div_le_self _ _) (eL a))] at hinv
   have:=l5.cR a (s:Int) a.length site (words (nat site)) (by omega) hl.symm (trim site (by omega))
   rwa[hinv] at this
  |succ j ih =>
   intro t site hj ht hl hinv
   obtain⟨v,hv⟩:∃v,a[t]? = some v:=⟨_,List.getElem?_eq_getElem (by omega)⟩
   have h1:=jh v
   have h2:=nF a (t+1)
   have e:(2:Nat)^min 32 64=4294967296:=by decide
   obtain⟨w,hw⟩:=iw ((wd a (t+1)*4294967296+v.toNat)/2^s%4294967296) (Nat.mod_lt _ (by omega))
   refine l5.l10 a (s:Int) t site v (wd a (t+1)) _ (wd a (t+1)*4294967296+v.toNat) s ((wd a (t+1)*4294967296+v.toNat)/2^s) w (by omega) hv (by omega) (word a (t+1)) rfl (by rw[e];exact O6 h1 h2) rfl (by rw[show min s 64=s from by omega]) hw.symm (by omega) ?_
   refine ih (t+1) (site.set t w) (by omega) (by omega) (by simpa using hl) ?_
   rw[gQ (by omega),hinv,hw]
   have g1:nat a/2^s/4294967296^t=nat (a.drop t)/2^s:=by
    rw[Nat.div_div_eq_div_mul,Nat.mul_comm,←Nat.div_div_eq_div_mul,tD a t (by omega)]
   have g2:nat (a.drop t)/2^s%4294967296=(wd a (t+1)*4294967296+v.toNat)/2^s%4294967296:=by
    rw[jM a t,jM a (t+1),jz hv]
    generalize nat (a.drop (t+1+1))=r
    generalize wd a (t+1)=y
    generalize v.toNat=x
    generalize hP:2^s=p at *
    generalize hQ:2^(32-s)=q at *
    have:x+4294967296*(y+4294967296*r)=p*(4294967296*(q*r))+(y*4294967296+x):=by
     have:p*(4294967296*(q*r))=4294967296*(4294967296*r):=by
      rw[Nat.mul_left_comm p 4294967296,←Nat.mul_assoc p q r,e2]
     omega
    rw[this,Nat.mul_add_div hp,Nat.mul_add_mod]
   have g3:=Nat.mod_mul (a:=4294967296^t) (b:=4294967296) (x:=nat a/2^s)
   rw[Nat.pow_succ,g3,g1,g2]
 exact l5.e0 a (s:Int) (by omega) (loop _ 0 _ rfl (by omega) (by simp) (by simp[nat,Nat.mod_one]))
theorem wY{α:Type}(A U C:List α)(t:Nat)(x:α)(ht:t<U.length):(A++(U++C)).set (A.length+t) x=A++(U.set t x++C):=by
 rw[List.set_append_right _ _ (by omega),show A.length+t-A.length=t from by omega,List.set_append_left _ _ ht]
theorem hX{α:Type}(A U C:List α)(t:Nat)(x:α)(h:U[t]? = some x):(A++(U++C))[A.length+t]? = some x:=by
 have ht:=(List.getElem?_eq_some_iff.1 h).1
 rw[List.getElem?_append_right (by omega),show A.length+t-A.length=t from by omega,List.getElem?_append_left ht]
 exact h
abbrev kt(A U C:Words):SC := .pure (((A++(U++C):List UInt32)).map ag).flatten
theorem remove(A U C v:Words)(n off len:Nat)(ho:off=A.length)(hlen:len=U.length)(hU:U.length≤2199023255553)(hn:n<4294967296)(hb:n*nat v<4294967296^U.length)(AN:v.length≤U.length) :
  ∃(U':Words) (bo:Bool),U'.length=U.length∧((bo=false→nat U'+n*nat v=nat U)∧(bo=true→nat U'+n*nat v=nat U+4294967296^U.length)) ∧
   av bp 271 [.row 100000 off len 1,.pv (aa v),.pv (vU n)] [(100000,kt A U C)] (.pv (vB bo)) [(100000,kt A U' C)]:=by
 subst ho;subst hlen
 have loop:∀(j t carry borrow:Nat) (U0:Words),U.length-t=j→t≤U.length→U0.length=U.length→borrow≤1→carry<4294967296→4294967296^t*carry≤n*nat (v.take t)→(∀q,t≤q→U0[q]? = U[q]?) →
   nat (U0.take t)+n*nat (v.take t)=nat (U.take t)+4294967296^t*(carry+borrow) →
   ∃(U':Words) (bo:Bool),U'.length=U.length∧((bo=false→nat U'+n*nat v=nat U)∧(bo=true→nat U'+n*nat v=nat U+4294967296^U.length)) ∧
    jF.ah A.length U.length v n carry borrow t (A++(U0++C)) [(100000,kt A U C)] (.pv (vB bo)) [(100000,kt A U' C)]:=by
  intro j
  induction j with
  |zero =>
   intro t carry borrow U0 hj ht hl T1 P8 sD _ hinv
   have wH:t=U.length:=by omega
   subst wH
   rw[aQ (l:=v) AN] at hinv sD
   rw[aQ (by omega),aQ (l:=U) (by omega)] at hinv
   have Am:carry=0:=by
    refine Nat.eq_zero_of_not_pos fun hp => ?_
    have:=Nat.mul_le_mul_left (4294967296^U.length) hp
    omega
   subst Am
   refine⟨U0,decide ((borrow:Int)=1),hl,?_,?_⟩
   ·by_cases h1:borrow=1
    ·subst h1
     exact⟨fun h=>by simp at h,fun _=>by rw[hinv];simp⟩
    ·have h0:borrow=0:=by omega
     subst h0
     exact⟨fun _=>by rw[hinv];simp,fun h=>by simp at h⟩
   ·have:=jF.cR A.length U.length v n 0 borrow U.length (A++(U0++C)) (sin:=[(100000,kt A U C)]) rfl rfl (by omega)
    have e:((borrow:Int)==1)=decide ((borrow:Int)=1):=by
     by_cases h1:borrow=1
     ·subst h1;rfl
     ·have h0:borrow=0:=by omega
      subst h0;rfl
    rw[e] at this;exact this
  |succ j ih =>
   intro t carry borrow U0 hj ht hl T1 P8 sD il hinv
   obtain⟨x,hx⟩:∃x,U[t]? = some x:=⟨_,List.getElem?_eq_getElem (by omega)⟩
   have PT:U0[t]? = some x:=by rw[il t (Nat.le_refl t)];exact hx
   have h1:=nF v t
   have h2:=jh x
   have h3:=wX hn h1
   have e:(2:Nat)^min 32 64=4294967296:=by decide
   generalize hp:n*wd v t=p at *
   obtain⟨lo,Ho⟩:=iw ((carry+p)%4294967296) (by omega)
   have hz:∃(d d1 y nb:Nat),((x.toNat:Nat)-(lo.toNat:Nat):Int)%18446744073709551616=(d:Int)∧((d:Nat)-(borrow:Nat):Int)%18446744073709551616=(d1:Int)∧d1%4294967296=y∧d1/2^min 63 64=nb∧nb≤1∧y<4294967296∧y+lo.toNat+borrow=x.toNat+4294967296*nb:=by
    have RM:=jh lo
    refine⟨(((x.toNat:Nat)-(lo.toNat:Nat):Int)%18446744073709551616).toNat,((((x.toNat:Nat)-(lo.toNat:Nat):Int)%18446744073709551616-borrow)%18446744073709551616).toNat,_,_,by omega,by omega,rfl,rfl,?_⟩
    have e:(2:Nat)^min 63 64=9223372036854775808:=by decide
    rw[e]
    generalize lo.toNat=q at *
    generalize x.toNat=r at *
    by_cases PZ:q+borrow≤r
    ·have e1:(((r:Int)-(q:Int))%18446744073709551616-borrow)%18446744073709551616=(r:Int)-q-borrow:=by omega
     rw[e1];omega
    ·have e1:(((r:Int)-(q:Int))%18446744073709551616-borrow)%18446744073709551616=(r:Int)-q-borrow+18446744073709551616:=by omega
     rw[e1];omega
   obtain⟨d,d1,y,nb,g1,g2,g3,g4,g5,g6,g7⟩:=hz
   obtain⟨w,hw⟩:=iw y g6
   have Oq:=wY A U0 C t w (by omega)
   have hmul:n*nat (v.take (t+1))=n*nat (v.take t)+4294967296^t*p:=by
    rw[et v t,Nat.mul_add,←hp,Nat.mul_left_comm]
   have Hr:=Nat.div_add_mod (carry+p) 4294967296
   have hA:4294967296^t*carry+4294967296^t*p=4294967296^t*(4294967296*((carry+p)/4294967296))+4294967296^t*lo.toNat:=by
    rw[Ho,←Nat.mul_add,←Nat.mul_add,Hr]
   have hB:4294967296^t*y+4294967296^t*lo.toNat+4294967296^t*borrow=4294967296^t*x.toNat+4294967296^t*(4294967296*nb):=by
    rw[←Nat.mul_add,←Nat.mul_add,←Nat.mul_add,g7]
   obtain⟨U',bo,q1,q2,q3⟩:=ih (t+1) ((carry+p)/4294967296) nb (U0.set t w) (by omega) (by omega) (by simpa using hl) g5 (by omega)
    (by rw[hmul,Nat.pow_succ,Nat.mul_assoc];omega)
    (fun q hq=>by rw[List.getElem?_set_ne (by omega)];exact il q (by omega))
    (by
     rw[gQ (by omega),hw,hmul,bY hx,Nat.pow_succ,Nat.mul_assoc,Nat.mul_add 4294967296,Nat.mul_add (4294967296^t)]
     rw[Nat.mul_add (4294967296^t) carry borrow] at hinv
     omega)
   refine⟨U',bo,q1,q2,?_⟩
   refine jF.l10 A.length U.length v n carry borrow t _ (wd v t) p (carry+p) x lo d d1 w nb ((carry+p)/4294967296) rfl (by omega) (word v t) (by rw[hp];omega) (by omega) (hX A U0 C t x PT) Ho.symm g1 g2 (by omega) (by simp;omega) g4 (by rw[e]) (by omega) ?_
   rw[Oq];exact q3
 obtain⟨U',bo,h1,h2,h3⟩:=loop _ 0 0 0 U rfl (by omega) rfl (by omega) (by omega) (by simp) (fun _ _=>rfl) (by simp[nat])
 exact⟨U',bo,h1,h2,jF.e0 (A++(U++C)) A.length U.length v n h3⟩
theorem back(A U C v:Words)(off len:Nat)(ho:off=A.length)(hlen:len=U.length)(hU:U.length≤2199023255553)(AN:v.length≤U.length) :
  ∃(U':Words) (ca:Nat),U'.length=U.length∧ca≤1∧nat U'+4294967296^U.length*ca=nat U+nat v ∧
   av bp 272 [.row 100000 off len 1,.pv (aa v)] [(100000,kt A U C)] (.pv (.aB [])) [(100000,kt A U' C)]:=by
 subst ho;subst hlen
 have loop:∀(j t carry:Nat) (U0:Words),U.length-t=j→t≤U.length→U0.length=U.length→carry≤1→(∀q,t≤q→U0[q]? = U[q]?) →
   nat (U0.take t)+4294967296^t*carry=nat (U.take t)+nat (v.take t) →
   ∃(U':Words) (ca:Nat),U'.length=U.length∧ca≤1∧nat U'+4294967296^U.length*ca=nat U+nat v ∧
    l0.ah A.length U.length v carry t (A++(U0++C)) [(100000,kt A U C)] (.pv (.aB [])) [(100000,kt A U' C)]:=by
  intro j
  induction j with
  |zero =>
   intro t carry U0 hj ht hl P8 _ hinv
   have wH:t=U.length:=by omega
   subst wH
   rw[aQ (l:=v) AN] at hinv
   rw[aQ (by omega),aQ (l:=U) (by omega)] at hinv
   exact⟨U0,carry,hl,P8,hinv,l0.cR A.length U.length v carry U.length (A++(U0++C)) (sin:=[(100000,kt A U C)]) rfl rfl (by omega)⟩
  |succ j ih =>
   intro t carry U0 hj ht hl P8 il hinv
   obtain⟨x,hx⟩:∃x,U[t]? = some x:=⟨_,List.getElem?_eq_getElem (by omega)⟩
   have PT:U0[t]? = some x:=by rw[il t (Nat.le_refl t)];exact hx
   have h1:=nF v t
   have h2:=jh x
   have e:(2:Nat)^min 32 64=4294967296:=by decide
   obtain⟨w,hw⟩:=iw ((carry+(x.toNat+wd v t))%4294967296) (by omega)
   have Hr:=Nat.div_add_mod (carry+(x.toNat+wd v t)) 4294967296
   have hA:4294967296^t*carry+4294967296^t*x.toNat+4294967296^t*wd v t=4294967296^t*(4294967296*((carry+(x.toNat+wd v t))/4294967296))+4294967296^t*w.toNat:=by
    rw[hw,←Nat.mul_add,←Nat.mul_add,←Nat.mul_add,Hr];congr 1;omega
   obtain⟨U',ca,q1,q2,q3,q4⟩:=ih (t+1) ((carry+(x.toNat+wd v t))/4294967296) (U0.set t w) (by omega) (by omega) (by simpa using hl) (by omega)
    (fun q hq=>by rw[List.getElem?_set_ne (by omega)];exact il q (by omega))
    (by rw[gQ (by omega),et v t,bY hx,Nat.pow_succ,Nat.mul_assoc];omega)
   refine⟨U',ca,q1,q2,q3,?_⟩
   refine l0.l10 A.length U.length v carry t _ x (wd v t) (x.toNat+wd v t) (carry+(x.toNat+wd v t)) w _ rfl (by omega) (hX A U0 C t x PT) (word v t) (by omega) (by omega) hw.symm (by simp;omega) (by rw[e]) (by omega) ?_
   rw[wY A U0 C t w (by omega)];exact q4
 obtain⟨U',ca,h1,h2,h3,h4⟩:=loop _ 0 0 U rfl (by omega) rfl (by omega) (fun _ _=>rfl) (by simp[nat])
 exact⟨U',ca,h1,h2,h3,l0.e0 (A++(U++C)) A.length U.length v h4⟩
end cP
end Go.Proofs.YtllmkadmohkbfaaGreatDoor.Sym
