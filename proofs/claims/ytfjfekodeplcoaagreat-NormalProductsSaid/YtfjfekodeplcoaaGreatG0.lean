/- Lemmas for the statements of this seat. -/
import Derived.Test.YtfjfekodeplcoaaGreatWObs
import Derived.Deep.Slices
import Derived.WideKeyArgs
import Derived.RowKit3
import Derived.WalkKit
import Derived.ProofKit
import Derived.OpenShut
import Derived.SizedLaws
import Derived.Test.YtfjfekodeplcoaaGreatT0
import Derived.Test.YtfjfekodeplcoaaGreatP0
namespace Go.Proofs.YtfjfekodeplcoaaGreat.Sym
open Go Go.RowKit Go.ChangeShapes Go.WideShapes
set_option linter.unusedVariables false
abbrev Old(w:World)(b:Nat):Prop:=b<w.heap.size
def lz(P:Program)(t:TypeId){α:Type}(f:α→List PV)(Q:α→Prop):Prop :=
 ∀{H:Type} (enc:TypeId×Value→H) (w:World) (base:Nat) (spare:Nat→Bool) (held:Bool) (fuel:Nat) (cs:List Value) (x:DataW H×List MemPlace),
  DataW.trod enc P w base spare held fuel t cs=some x→(∀n∈x.1.weights P t,n≤reachBytes)→∃a,bT (Old w) w (f a) cs∧Q a
theorem ct{I:Nat→Prop}{w:World}{a b:List PV}{us vs:List Value}(h:bT I w a us)(k:bT I w b vs):bT I w (a++b) (us++vs):=by
 refine⟨by rw[List.length_append,List.length_append,h.1,k.1],fun j c u hc hu => ?_⟩
 by_cases hj:j<a.length
 ·rw[List.getElem?_append_left hj] at hc
  rw[List.getElem?_append_left (by rw[←h.1];exact hj)] at hu
  exact h.2 j c u hc hu
 ·rw[List.getElem?_append_right (by omega)] at hc
  rw[List.getElem?_append_right (by rw[←h.1];omega)] at hu
  rw[h.1] at hc
  exact k.2 _ c u hc hu
theorem kG{I:Nat→Prop}{w:World}{p:PV}{v:Value}(h1:p.one=true)(h:Rd I w p v):bT I w [p] [v]:=by
 refine⟨rfl,fun j c u hc hu => ?_⟩
 cases j with
 |zero=>simp at hc hu;subst hc hu;exact⟨h1,h⟩
 |succ j=>simp at hc
theorem sE{P:Program}{t:TypeId}{k:IntKind}(ht:P.underlying t=some (.int k)):lz P t (fun n:Int=>[.int k n]) (fun n=>(Lit.int k n).wf=true):=by
 intro H enc w base spare held fuel cs x h _
 obtain⟨n,rfl,_,hw⟩:=DataW.trod_int ht h
 exact⟨n,kG rfl (.int _ _),hw⟩
theorem Ft{P:Program}{t:TypeId}(ht:P.underlying t=some .bool):lz P t (fun b:Bool=>[.bool b]) (fun _=>True):=by
 intro H enc w base spare held fuel cs x h _
 obtain⟨b,rfl,_⟩:=DataW.trod_bool ht h
 exact⟨b,kG rfl (.bool _),trivial⟩
theorem IZ{w:World}{a:Addr}{v:Value}(h:w.cell? a=some v):a.spot=none∧a.block<w.heap.size:=by
 unfold World.cell? at h
 split at h
 ·rename_i c q r hc
  refine⟨?_,(Array.getElem?_eq_some_iff.1 hc).1⟩
  cases hs:a.spot with
  |none=>rfl
  |some _=>rw[hs] at h;simp at h
 ·cases h
theorem Dt(a:Addr):a.add 0=a:=rfl
theorem Bg(b o i:Nat):(⟨b,o,none⟩:Addr).add i=⟨b,o+i,none⟩:=by
 unfold Addr.add
 split
 ·rename_i h;subst h;rfl
 ·rfl
theorem xf{H:Type}{P:Program}{e:TypeId} : ∀{l:List (DataW H)} {d:DataW H} {n:Nat},d∈l→n∈d.weights P e→n∈DataW.weightsAll P e l
 |a::r,d,n,hd,hn=>by
  simp only[DataW.weightsAll,List.mem_append]
  rcases List.mem_cons.1 hd with h|h
  ·subst h;exact Or.inl hn
  ·exact Or.inr (xf h hn)
theorem mE{P:Program}{t e:TypeId}{α:Type}{f:α→List PV}{Q:α→Prop}{s sb:Nat}(ht:P.underlying t=some (.slice e))(hs:P.cellsOf e=s)(EP:0<s)(Wa:P.bytesOf e=sb)(hf:∀a,(f a).length=s)(ho:lz P e f Q) :
  lz P t (fun l:List α=>[.list (l.map f)]) (fun l=>l.length*sb≤reachBytes∧∀a∈l,Q a):=by
 intro H enc w base spare held fuel cs x h pz
 rcases Deep.open_slice ht h with ⟨rfl,_⟩|⟨a,len,cap,m,n,D,Pl,rfl,hb,hl,hm,Wb,El,hx⟩
 ·exact⟨[],kG rfl (.nil _ _),by simp,by simp⟩
 rw[hs] at hx
 have Xe:len≤m:=by rw[Wb];split<;>omega
 have qV:∀i,i<len→∃(y:α×List Value),w.cells? base (a.add (i*s)) s=some y.2∧bT (Old w) w (f y.1) y.2∧Q y.1:=by
  intro i hi
  obtain⟨Qv,h1,h2⟩:=hx i (by omega)
  obtain⟨y,h3,h4⟩:=ho enc w base spare held n Qv _ h2 (fun q hq=>pz q (by
   rw[El]
   simp only[DataW.weights,ht,List.mem_cons,List.mem_append]
   exact Or.inr (Or.inl (xf (List.mem_map.2 ⟨i,List.mem_range.2 hi,rfl⟩) hq))))
  exact⟨(y,Qv),h1,h3,h4⟩
 by_cases h0:len=0
 ·subst h0
  exact⟨[],kG rfl (.nil _ _),by simp,by simp⟩
 have iO:Nonempty (α×List Value):=⟨(qV 0 (by omega)).choose⟩
 have:Inhabited (α×List Value):=Classical.inhabited_of_nonempty iO
 obtain⟨Y,hY⟩:=Deep.choose_lt qV
 obtain⟨c0,_⟩:=hY 0 (by omega)
 obtain⟨_,Xf,Wc⟩:=World.cells?_some c0
 have cg:=Wc 0 EP
 obtain⟨v0,PU⟩:∃v,(Y 0).2[0]? = some v:=⟨_,List.getElem?_eq_getElem (by omega)⟩
 rw[PU] at cg
 rw[Nat.zero_mul,Dt,Dt] at cg
 obtain⟨GD,K0⟩:=IZ cg
 obtain⟨b,o,sp⟩:=a
 simp only at GD K0
 subst GD
 have zR:∀i j:Nat,i<len→j<s→w.cell? ⟨b,o+(i*s+j),none⟩=(Y i).2[j]? := by
  intro i j hi hj
  obtain⟨c1,_⟩:=hY i hi
  obtain⟨_,_,g⟩:=World.cells?_some c1
  have:=g j hj
  rw[Bg,Bg,Nat.add_assoc] at this
  exact this
 refine⟨(List.range len).map (fun i=>(Y i).1),kG rfl ?_,?_,?_⟩
 ·have e:len=(((List.range len).map (fun i=>(Y i).1)).map f).length:=by simp
  have kK:∀(i:Nat) row,(((List.range len).map (fun i=>(Y i).1)).map f)[i]? = some row→i<len∧row=f (Y i).1:=by
   intro i row hr
   have hi:i<len:=by have:=(List.getElem?_eq_some_iff.1 hr).1;rw[←e] at this;exact this
   refine⟨hi,?_⟩
   simp[List.getElem?_map,List.getElem?_range hi] at hr
   exact hr.symm
  have key:Rd (Old w) w (.list (((List.range len).map (fun i=>(Y i).1)).map f)) (.slice (some ⟨b,o,none⟩) (((List.range len).map (fun i=>(Y i).1)).map f).length cap):=by
   refine Rd.list _ b o cap s (fun i j=>((Y i).2[j]?).getD .nilIface) (by rw[←e];exact hl) K0 ?_ ?_ ?_
   ·intro i row hr
    obtain⟨_,rfl⟩:=kK i row hr
    exact hf _
   ·intro i j row x hr CL
    obtain⟨hi,rfl⟩:=kK i row hr
    obtain⟨c1,r1,_⟩:=hY i hi
    have hj:j<s:=by rw[←hf (Y i).1];exact(List.getElem?_eq_some_iff.1 CL).1
    have hlen:=r1.1
    obtain⟨u,hu⟩:∃u,(Y i).2[j]? = some u:=⟨_,List.getElem?_eq_getElem (by rw[←hlen,hf];exact hj)⟩
    refine⟨(r1.2 j x u CL hu).1,?_⟩
    rw[zR i j hi hj,hu];rfl
   ·intro i j row x hr CL
    obtain⟨hi,rfl⟩:=kK i row hr
    obtain⟨c1,r1,_⟩:=hY i hi
    have hj:j<s:=by rw[←hf (Y i).1];exact(List.getElem?_eq_some_iff.1 CL).1
    have hlen:=r1.1
    obtain⟨u,hu⟩:∃u,(Y i).2[j]? = some u:=⟨_,List.getElem?_eq_getElem (by rw[←hlen,hf];exact hj)⟩
    rw[hu]
    exact(r1.2 j x u CL hu).2
  rw[←e] at key
  exact key
 ·have:=pz ((len+(m-len))*sb) (by
   rw[El]
   simp only[DataW.weights,ht,Wa,List.length_map,List.length_range,List.mem_cons,true_or])
  rw[List.length_map,List.length_range]
  exact Nat.le_trans (Nat.mul_le_mul_right _ (by omega)) this
 ·intro y hy
  obtain⟨i,hi,rfl⟩:=List.mem_map.1 hy
  exact(hY i (List.mem_range.1 hi)).2.2
theorem jM{P:Program}{t:TypeId}{fs:Array Field}(ht:P.underlying t=some (.struct fs)){H:Type}{enc:TypeId×Value→H}{w:World}{base:Nat}{spare:Nat→Bool}{held:Bool}{fuel:Nat}{cs:List Value}{x:DataW H×List MemPlace}
  (h:DataW.trod enc P w base spare held fuel t cs=some x):cs.length=P.cellsOf t:=(DataW.trod_struct ht h).choose_spec.choose_spec.2.2.1
theorem cm{P:Program}{t u:TypeId}{fs:Array Field}{α:Type}{f:α→List PV}{Q:α→Prop}(ht:P.underlying t=some (.struct fs)){H:Type}{enc:TypeId×Value→H}{w:World}{base:Nat}{spare:Nat→Bool}{held:Bool}{fuel:Nat}{cs:List Value}{x:DataW H×List MemPlace}
  (h:DataW.trod enc P w base spare held fuel t cs=some x) (pz:∀n∈x.1.weights P t,n≤reachBytes) (i off s:Nat) (hi:(fs[i]?).map (fun f=>(f.type,f.offset))=some (u,off)) (hs:P.cellsOf u=s) (ho:lz P u f Q):∃a,bT (Old w) w (f a) ((cs.drop off).take s)∧Q a:=by
 obtain⟨xs,n,_,hx,hl,hlen,hf⟩:=DataW.trod_struct ht h
 cases hfi:fs[i]? with
 |none=>rw[hfi] at hi;cases hi
 |some fd =>
  rw[hfi] at hi
  injection hi with hi
  injection hi with e1 e2
  have h1:=hf i fd hfi
  have h2:i<xs.length:=by rw[hlen];exact(Array.getElem?_eq_some_iff.1 hfi).1
  rw[List.getElem?_eq_getElem h2,e1,e2,hs] at h1
  refine ho enc w base spare held n _ _ h1 (fun q hq=>pz q ?_)
  rw[hx]
  simp only[DataW.weights,ht]
  refine DataW.weights_mem_each (j:=i) (t:=u) (d:=xs[i].1) ?_ ?_ q hq
  ·rw[List.getElem?_map,Array.getElem?_toList,hfi]
   exact congrArg some e1
  ·rw[List.getElem?_map,List.getElem?_eq_getElem h2];rfl
def l5:Option TypeDesc→Option (List (TypeId×Nat))
 |some (.struct fs)=>some (fs.toList.map fun f=>(f.type,f.offset))
 |_=>none
theorem gJ{u:Option TypeDesc}{l:List (TypeId×Nat)}(h:l5 u=some l):∃fs,u=some (.struct fs)∧∀i:Nat,(fs[i]?).map (fun f=>(f.type,f.offset))=l[i]? := by
 unfold l5 at h
 split at h
 ·rename_i fs
  injection h with h
  refine⟨fs,rfl,fun i => ?_⟩
  rw[←h,List.getElem?_map,Array.getElem?_toList]
 ·cases h
theorem qa{P:Program}{t:TypeId}{fs:Array Field}{w:World}{r:Reach}{b0:Nat}{v:Value}{cs:List PV}(ht:P.underlying t=some (.struct fs))(hv:Value.okWide P w r b0 t v)(h:bT (Old w) w cs v.cells.toList):Rd (Old w) w (.agg cs) v:=by
 obtain⟨us,rfl,_⟩:=okWide_struct ht hv
 have h:bT (Old w) w cs us.toList:=h
 refine .agg cs us (by rw[h.1];simp) (fun j c hc => ?_) (fun j c u hc hu=>(h.2 j c u hc (by simpa using hu)).2)
 obtain⟨u,hu⟩:∃u,us.toList[j]? = some u:=⟨_,List.getElem?_eq_getElem (by rw[←h.1];exact(List.getElem?_eq_some_iff.1 hc).1)⟩
 exact(h.2 j c u hc hu).1
theorem Fu{w w':World}{may:MemPlace→Prop}(h:gS (fun _=>False) w w'):w.keptBut w' may:=by
 refine⟨h.os,h.output,fun i hi => ?_⟩
 have e:=h.block i hi (fun h=>h)
 rw[e]
 cases w.heap[i]? with
 |none=>rfl
 |some o=>cases o<;>simp
theorem Cf{w w':World}(h:gS (fun _=>False) w w'){a:Addr}(ha:a.block<w.heap.size):w'.frozen? a=w.frozen? a:=by
 have e:=h.block _ ha (fun h=>h)
 unfold World.frozen?
 rw[e]
theorem Fv{w w':World}(h:gS (fun _=>False) w w'){p:MemPlace}(hp:p.block<w.heap.size):w.sameAt w' p:=by
 cases p with
 |cell b off =>
  have e:=h.block b hp (fun h=>h)
  show w'.cell? _=w.cell? _
  simp[World.cell?,e]
 |map b=>exact h.block b hp (fun h=>h)
section
variable {H:Type} {enc:TypeId×Value→H} {P:Program}
theorem Bh{f:Func}{s:ChangeSpec}{apart fresh handsOn again:Bool}{W W':World}{args:Array Value}{ds gs:List (DataW H)}{before:List MemPlace}{tb:TypeId}
  (hW:DataW.Whole enc P f.params.toList s.vars apart W args.toList ds gs before) (hk:gS (fun _=>False) W W')
  (L7:s.vars=[]) (Uh:f.resultTypes = #[tb]) (QQ:P.underlying tb=some .bool)
  (nP:(s.fn H (ds++gs)).results=[.lit (.bool true)]) (fZ:(s.fn H (ds++gs)).args=ds) (LK:(s.fn H (ds++gs)).vars=[])
  (hl:laidOutB P=true) (hr:∀t∈f.params.toList,P.readableRec t=true∧t<P.types.size):s.post enc P f apart fresh handsOn again W args (.bool true) W':=by
 have cQ:=hW.lt
 obtain⟨p,q,hA,hV,LR,hz,hn⟩:=hW
 have hW:DataW.Whole enc P f.params.toList s.vars apart W args.toList ds gs before:=⟨p,q,hA,hV,LR,hz,hn⟩
 rw[L7] at hV
 obtain⟨Db,Kw⟩:=trodVars_none hV
 subst Kw
 have QR:before=p:=by rw[LR];simp
 have NS:∀(sp:Nat→Bool),(∀x∈before,sp x.block=true)→DataW.TrodAll enc P W' 0 sp true f.params.toList args.toList ds p:=by
  intro sp GD
  have key:∀{ts:List TypeId} {vs:List Value} {es:List (DataW H)} {ps:List MemPlace},(∀t∈ts,P.readableRec t=true∧t<P.types.size)→(∀x∈ps,x∈before)→DataW.TrodAll enc P W 0 (fun _=>true) true ts vs es ps→DataW.TrodAll enc P W' 0 sp true ts vs es ps:=by
   intro ts
   induction ts with
   |nil =>
    intro vs es ps _ _ h
    obtain⟨rfl,rfl,rfl⟩:=trodAll_nil h
    exact trodAll_mk0
   |cons t ts ih =>
    intro vs es ps PW jf h
    obtain⟨v,TV,d,Xg,a,b,rfl,rfl,rfl,h1,h2⟩:=trodAll_cons h
    refine⟨a,b,WideElems.Trod_stays hl (PW t (List.mem_cons_self ..)).1 (PW t (List.mem_cons_self ..)).2 h1 (fun x hx=>Fv hk (cQ x (jf x (List.mem_append_left _ hx)))) (fun x hx=>GD x (jf x (List.mem_append_left _ hx))),ih (fun u hu=>PW u (List.mem_cons_of_mem _ hu)) (fun x hx=>jf x (List.mem_append_right _ hx)) h2,rfl⟩
  exact key hr (fun x hx=>by rw[QR];exact hx) hA
 have hold:∀x∈before,(fun b=>decide (b<W.heap.size)) x.block=true:=fun x hx=>by simpa using cQ x hx
 have F0:∀(b:Nat) (sp:Nat→Bool) (hd:Bool),DataW.TrodAll enc P W' b sp hd f.resultTypes.toList ((Value.bool true).resultList f.resultTypes.size) (s.fn H (ds++gs)).results []:=by
  intro b sp hd
  rw[Uh,nP]
  exact trodAll_mk1 (shut_bool QQ true)
 have A4:∀sp:Nat→Bool,DataW.TrodVars enc P W' sp s.vars (s.fn H (ds++gs)).vars []:=by
  intro sp;rw[L7,LK];rfl
 have I2:∀(sp:Nat→Bool),(∀x∈before,sp x.block=true)→DataW.TrodAll enc P W' 0 sp true f.params.toList args.toList (s.fn H (ds++gs)).args p:=by
  intro sp GD
  rw[fZ];exact NS sp GD
 refine⟨ds,gs,before,[],p,[],hW,F0 _ _ _,I2 _ hold,A4 _,Fu hk,fun _ => ?_⟩
 refine⟨ok_one Uh rfl (okWide_bool_mk QQ true),_,_,([]++p)++[],⟨[]++p,[],trodAll_append (I2 _ (fun _ _=>rfl)) (F0 _ _ _),A4 _,rfl,?_,?_⟩,?_⟩
 ·intro b off hp
  have hp':MemPlace.cell b off∈before:=by rw[QR];simpa using hp
  rw[Cf hk (cQ _ hp')]
  exact hz b off hp'
 ·intro ha
  have:=hn ha
  rw[QR] at this
  simpa using this
 ·intro x hx _
  rw[QR]
  simpa using hx
end
end Go.Proofs.YtfjfekodeplcoaaGreat.Sym
namespace Go.Proofs.YtfjfekodeplcoaaGreat.Sym
open Go Go.RowKit Go.ChangeShapes Go.WideShapes
set_option linter.unusedVariables false
theorem K1{n:Int}(h:(Lit.int .u32 n).wf=true):∃v:UInt32,(v.toNat:Int)=n:=by
 have h:(0≤n∧n≤4294967295):=by simpa[Lit.wf,IntKind.min,IntKind.max,IntKind.signed,IntKind.bits] using h
 refine⟨UInt32.ofNat n.toNat,?_⟩
 rw[show (UInt32.ofNat n.toNat).toNat=n.toNat from by simp;omega]
 omega
theorem K3{n:Int}(h:(Lit.int .i64 n).wf=true):aO n:=by
 have h:(-9223372036854775808≤n∧n≤9223372036854775807):=by simpa[Lit.wf,IntKind.min,IntKind.max,IntKind.signed,IntKind.bits] using h
 unfold aO
 omega
theorem Fw:lz bp 115 af (fun _=>True):=by
 intro H enc w base spare held fuel cs x h pz
 obtain⟨n,h1,h2⟩:=sE (k := .u32) (show bp.underlying 115=some (.int .u32) by kernel_rfl) enc w base spare held fuel cs x h pz
 obtain⟨v,rfl⟩:=K1 h2
 exact⟨v,h1,trivial⟩
theorem xg:lz bp 27 (fun l:Words=>[aa l]) (fun l=>l.length*4≤reachBytes):=by
 intro H enc w base spare held fuel cs x h pz
 obtain⟨l,h1,h2,_⟩:=mE (s:=1) (show bp.underlying 27=some (.slice 115) by kernel_rfl) (by kernel_rfl) (by omega) (sb:=4) (by kernel_rfl) (fun _=>rfl) Fw enc w base spare held fuel cs x h pz
 exact⟨l,h1,h2⟩
theorem I3{α:Type}(cs:List α)(a b c:Nat)(h:cs.length=a+b+c):cs=(cs.drop 0).take a++((cs.drop a).take b++(cs.drop (a+b)).take c):=by
 have e:(cs.drop (a+b)).take c=cs.drop (a+b):=List.take_of_length_le (by rw[List.length_drop];omega)
 have h1:(cs.drop a).take b++cs.drop (a+b)=cs.drop a:=by
  have:=List.take_append_drop b (cs.drop a)
  rwa[List.drop_drop] at this
 rw[e,h1,List.drop_zero,List.take_append_drop]
def I4(a:aK):Prop:=a.num.length*4≤reachBytes∧a.den.length*4≤reachBytes
theorem oh:lz bp 29 aK.cells I4:=by
 intro H enc w base spare held fuel cs x h pz
 obtain⟨fs,hu,e⟩:=gJ (show l5 (bp.underlying 29)=some [(4,0),(27,1),(27,2)] by kernel_rfl)
 have hl:=jM hu h
 have hl:cs.length=1+1+1:=hl.trans (by kernel_rfl)
 obtain⟨b,r0,_⟩:=cm hu h pz 0 0 1 (e 0) (by kernel_rfl) (Ft (show bp.underlying 4=some .bool by kernel_rfl))
 obtain⟨n,r1,q1⟩:=cm hu h pz 1 1 1 (e 1) (by kernel_rfl) xg
 obtain⟨d,r2,q2⟩:=cm hu h pz 2 2 1 (e 2) (by kernel_rfl) xg
 refine⟨⟨b,n,d⟩,?_,q1,q2⟩
 rw[I3 cs 1 1 1 hl]
 exact ct r0 (ct r1 r2)
theorem I5{α:Type}(cs:List α)(a b:Nat)(h:cs.length=a+b):cs=(cs.drop 0).take a++(cs.drop a).take b:=by
 have e:(cs.drop a).take b=cs.drop a:=List.take_of_length_le (by rw[List.length_drop];omega)
 rw[e,List.drop_zero,List.take_append_drop]
theorem zS:reachBytes<140737488355328:=by decide
theorem I6{a:aK}(h:I4 a):a.num.length+a.den.length<9223372036854775808:=by
 have:=h.1
 have:=h.2
 have:=zS
 omega
end Go.Proofs.YtfjfekodeplcoaaGreat.Sym
namespace Go.Proofs.YtfjfekodeplcoaaGreat.Sym
def nat:Words→Nat
 |[]=>0
 |w::r=>w.toNat+4294967296*nat r
def qN:Nat→Nat→Words
 |0,_=>[]
 |f+1,n=>bif Nat.beq n 0 then [] else UInt32.ofNat n::qN f (n/4294967296)
def words(n:Nat):Words:=qN n n
theorem iD(w:UInt32):w.toNat<4294967296:=w.toNat_lt
theorem vg(n:Nat):(UInt32.ofNat n).toNat=n%4294967296:=by simp
theorem NT{a b:UInt32}(h:a.toNat=b.toNat):a=b:=UInt32.toNat_inj.1 h
theorem SO{n:Nat}(h:n<4294967296):(UInt32.ofNat n).toNat=n:=by rw[vg];exact Nat.mod_eq_of_lt h
theorem gK(n:Nat)(h:n<4294967296):∃w:UInt32,w.toNat=n:=⟨UInt32.ofNat n,SO h⟩
theorem uc : ∀ (f n : Nat), n ≤ f → nat (qN f n) = n
  | 0, n, h => by have : n = 0 := by omega
                  subst this; rfl
  | f + 1, n, h => by
    unfold qN
    by_cases h0 : n = 0
    · subst h0; rfl
    · have : Nat.beq n 0 = false := by
        cases hb : Nat.beq n 0 with
        | true => exact absurd (Nat.eq_of_beq_eq_true hb) h0
        | false => rfl
      rw [this]
      show (UInt32.ofNat n).toNat + 4294967296 * nat (qN f (n / 4294967296)) = n
      rw [uc f (n / 4294967296) (by omega), vg]
      omega
theorem aJ(n:Nat):nat (words n)=n:=uc n n (Nat.le_refl n)
def cn:Words→Bool
 |[]=>true
 |[w]=>w.toNat != 0
 |_::w::r=>cn (w::r)
theorem Cg{w:UInt32}{r:Words}(h:cn (w::r)=true):cn r=true:=by
 cases r with
 |nil=>rfl
 |cons v r=>exact h
theorem pA:∀{l:Words},cn l=true→l≠[]→0<nat l
 |[],_,h=>absurd rfl h
 |[w],h,_=>by
  simp[cn] at h
  show 0<w.toNat+4294967296*0
  omega
 |w::v::r,h,_=>by
  have:=pA (l:=v::r) h (by simp)
  show 0<w.toNat+4294967296*nat (v::r)
  omega
theorem I7:∀{a b:Words},cn a=true→cn b=true→nat a=nat b→a=b
 |[],[],_,_,_=>rfl
 |[],w::r,_,hb,h=>by have:=pA hb (by simp);have h0:nat []=0:=rfl;omega
 |w::r,[],ha,_,h=>by have:=pA ha (by simp);have h0:nat []=0:=rfl;omega
 |w::r,v::s,ha,hb,h=>by
  have h:w.toNat+4294967296*nat r=v.toNat+4294967296*nat s:=h
  have h1:=iD w
  have h2:=iD v
  have h3:w.toNat=v.toNat:=by omega
  have h4:nat r=nat s:=by omega
  rw[NT h3,I7 (Cg ha) (Cg hb) h4]
theorem Bi:∀(f n:Nat),n≤f→cn (qN f n)=true
 |0,n,_=>rfl
 |f+1,n,h=>by
  unfold qN
  by_cases h0:n=0
  ·subst h0;rfl
  ·have:Nat.beq n 0=false:=by
    cases hb:Nat.beq n 0 with
    |true=>exact absurd (Nat.eq_of_beq_eq_true hb) h0
    |false=>rfl
   rw[this]
   show cn (UInt32.ofNat n::qN f (n/4294967296))=true
   have ih:=Bi f (n/4294967296) (by omega)
   have hn:=uc f (n/4294967296) (by omega)
   cases hr:qN f (n/4294967296) with
   |nil =>
    rw[hr] at hn
    have hn:0=n/4294967296:=hn
    show((UInt32.ofNat n).toNat != 0)=true
    rw[vg]
    have:n%4294967296≠0:=by omega
    simpa using this
   |cons v r=>rw[hr] at ih;exact ih
theorem gL(n:Nat):cn (words n)=true:=Bi n n (Nat.le_refl n)
theorem se{l:Words}{n:Nat}(hc:cn l=true)(h:nat l=n):words n=l:=I7 (gL n) hc (by rw[aJ,h])
theorem eK{l:Words}(hc:cn l=true):words (nat l)=l:=se hc rfl
theorem fN:words 0=[]:=rfl
theorem sF{n:Nat} : words n=[]↔n=0:=by
 constructor
 ·intro h;rw[←aJ n,h];rfl
 ·intro h;subst h;rfl
theorem dL{n:Nat} : (words n).length=0↔n=0:=by rw[List.length_eq_zero_iff,sF]
theorem ee:∀l:Words,nat l<4294967296^l.length
 |[]=>by simp[nat]
 |w::r=>by
  have h1:=ee r
  have h2:=iD w
  show w.toNat+4294967296*nat r<4294967296^(r.length+1)
  rw[Nat.pow_succ]
  omega
theorem l6:∀a b:Words,nat (a++b)=nat a+4294967296^a.length*nat b
 |[],b=>by simp[nat]
 |w::r,b=>by
  show w.toNat+4294967296*nat (r++b)=w.toNat+4294967296*nat r+4294967296^(r.length+1)*nat b
  rw[l6 r b,Nat.pow_succ,Nat.mul_add,←Nat.mul_assoc,Nat.mul_comm 4294967296 (4294967296^r.length)]
  omega
theorem jO(l:Words)(k:Nat)(h:k≤l.length):nat l=nat (l.take k)+4294967296^k*nat (l.drop k):=by
 conv=>lhs;rw[←List.take_append_drop k l]
 rw[l6,List.length_take,Nat.min_eq_left h]
theorem bV{l:Words}{k:Nat}{v:UInt32}(h:l[k]? = some v):nat (l.take (k+1))=nat (l.take k)+4294967296^k*v.toNat:=by
 have hk:k<l.length:=(List.getElem?_eq_some_iff.1 h).1
 rw[List.take_add_one,h]
 show nat (l.take k++[v])=_
 rw[l6,List.length_take,Nat.min_eq_left (Nat.le_of_lt hk)]
 simp[nat]
theorem qb{l:Words}{k:Nat}{v:UInt32}(h:l[k]? = some v):nat (l.drop k)=v.toNat+4294967296*nat (l.drop (k+1)):=by
 have hk:k<l.length:=(List.getElem?_eq_some_iff.1 h).1
 have hv:l[k]=v:=by
  have:=List.getElem?_eq_getElem hk
  rw[h] at this;injection this with this;exact this.symm
 rw[List.drop_eq_getElem_cons hk,hv];rfl
theorem l7:∀n:Nat,nat (List.replicate n 0)=0
 |0=>rfl
 |n+1=>by
  show(0:UInt32).toNat+4294967296*nat (List.replicate n 0)=0
  rw[l7 n];rfl
theorem o4:∀(l:Words) (k:Nat) (v u:UInt32),l[k]? = some u→nat (l.set k v)+4294967296^k*u.toNat=nat l+4294967296^k*v.toNat
 |[],k,v,u,h=>by simp at h
 |w::r,0,v,u,h=>by
  simp at h;subst h
  show v.toNat+4294967296*nat r+4294967296^0*w.toNat=w.toNat+4294967296*nat r+4294967296^0*v.toNat
  omega
 |w::r,k+1,v,u,h=>by
  have ih:=o4 r k v u (by simpa using h)
  show w.toNat+4294967296*nat (r.set k v)+4294967296^(k+1)*u.toNat=w.toNat+4294967296*nat r+4294967296^(k+1)*v.toNat
  rw[Nat.pow_succ,Nat.mul_comm (4294967296^k) 4294967296,Nat.mul_assoc,Nat.mul_assoc]
  omega
theorem gf{l:Words}{k:Nat}{v:UInt32}(h:k<l.length):nat ((l.set k v).take (k+1))=nat (l.take k)+4294967296^k*v.toNat:=by
 rw[bV (v:=v) (by simp[h]),List.take_set_of_le (Nat.le_refl k)]
theorem bc{l:Words}{k:Nat}(h:l.length≤k):nat (l.take k)=nat l:=by rw[List.take_of_length_le h]
theorem kH{n k:Nat}(h:n<4294967296^k):(words n).length≤k:=by
 have key:∀(l:Words),cn l=true→∀k,nat l<4294967296^k→l.length≤k:=by
  intro l
  induction l with
  |nil=>intro _ k _;simp
  |cons w r ih =>
   intro hc k hk
   have hp:=pA hc (by simp)
   cases k with
   |zero=>simp at hk;omega
   |succ k =>
    have h1:w.toNat+4294967296*nat r<4294967296^(k+1):=hk
    rw[Nat.pow_succ] at h1
    have:=ih (Cg hc) k (by omega)
    simp;omega
 exact key _ (gL n) k (by rw[aJ];exact h)
theorem jP(n:Nat):n<4294967296^(words n).length:=by
 have:=ee (words n)
 rwa[aJ] at this
theorem lC{a b:Nat}(h:a≤b):4294967296^a≤4294967296^b:=Nat.pow_le_pow_right (by omega) h
theorem dO{m n:Nat}(h:m≤n):(words m).length≤(words n).length:=kH (Nat.lt_of_le_of_lt h (jP n))
theorem zT(l:Words):(words (nat l)).length≤l.length:=kH (ee l)
theorem Du{l:Words}(hc:cn l=true)(iO:l≠[]):4294967296^(l.length-1)≤nat l:=by
 refine Nat.le_of_not_lt fun h => ?_
 have h1:=kH h
 rw[eK hc] at h1
 have:0<l.length:=List.length_pos_iff.2 iO
 omega
theorem mf:∀{l:Words} {v:UInt32},l[l.length-1]? = some v→(cn l=true↔v.toNat≠0)
 |[],v,h=>by simp at h
 |[w],v,h=>by simp at h;subst h;simp[cn]
 |w::u::r,v,h=>by
  have h':(u::r)[(u::r).length-1]? = some v:=by
   simp only[List.length_cons,Nat.add_sub_cancel] at h ⊢
   rw[show r.length+1=(r.length)+1 from rfl,List.getElem?_cons_succ] at h
   exact h
  exact mf (l:=u::r) h'
open Go
set_option linter.unusedVariables false
theorem Bj:∀(x:List UInt8),Op.bytesLess x x=false
 |[]=>rfl
 |a::x=>by
  show(decide (a<a)||(a==a&&Op.bytesLess x x))=false
  rw[Bj x,Bool.and_false,Bool.or_false]
  exact decide_eq_false (by simp)
theorem Dw:∀(x y z:List UInt8),Op.bytesLess x y=true→Op.bytesLess y z=true→Op.bytesLess x z=true
 |x,[],_,h,_=>by cases x<;>exact absurd h (by simp[Op.bytesLess])
 |x,y::ys,[],_,h=>absurd h (by simp[Op.bytesLess])
 |[],y::ys,z::zs,_,_=>rfl
 |x::xs,y::ys,z::zs,bg,gz=>by
  have h1:(decide (x<y)||(x==y&&Op.bytesLess xs ys))=true:=bg
  have h2:(decide (y<z)||(y==z&&Op.bytesLess ys zs))=true:=gz
  clear bg gz
  show(decide (x<z)||(x==z&&Op.bytesLess xs zs))=true
  simp only[Bool.or_eq_true,decide_eq_true_eq,Bool.and_eq_true,beq_iff_eq,UInt8.lt_iff_toNat_lt] at *
  rcases h1 with h1|⟨rfl,h1⟩
  ·rcases h2 with h2|⟨rfl,h2⟩
   ·exact .inl (by omega)
   ·exact .inl h1
  ·rcases h2 with h2|⟨rfl,h2⟩
   ·exact .inl h2
   ·exact .inr ⟨rfl,Dw xs ys zs h1 h2⟩
theorem Dx:∀(x y:List UInt8),Op.bytesLess x y=false→Op.bytesLess y x=false→x=y
 |[],[],_,_=>rfl
 |[],y::ys,h,_=>absurd h (by simp[Op.bytesLess])
 |x::xs,[],_,h=>absurd h (by simp[Op.bytesLess])
 |x::xs,y::ys,h1,h2=>by
  have h1:(decide (x<y)||(x==y&&Op.bytesLess xs ys))=false:=h1
  have h2:(decide (y<x)||(y==x&&Op.bytesLess ys xs))=false:=h2
  simp only[Bool.or_eq_false_iff,decide_eq_false_iff_not,UInt8.lt_iff_toNat_lt] at h1 h2
  have e:x=y:=UInt8.toNat.inj (by omega)
  subst e
  simp only[beq_self_eq_true,Bool.true_and] at h1 h2
  rw[Dx xs ys h1.2 h2.2]
theorem fA(x:ByteArray):strLt x x=false:=Bj _
theorem o5{x y z:ByteArray}(h1:strLt x y=true)(h2:strLt y z=true):strLt x z=true:=Dw _ _ _ h1 h2
theorem Dy{x y:ByteArray}(h1:strLt x y=false)(h2:strLt y x=false):x=y:=by
 have:=Dx _ _ h1 h2
 rw[ByteArray.toList_eq,ByteArray.toList_eq] at this
 exact ByteArray.ext (Array.ext' this)
theorem o6{x y:ByteArray}(h1:strLt x y=true):strLt y x=false:=by
 cases h:strLt y x with
 |false=>rfl
 |true=>have:=o5 h1 h;rw[fA] at this;cases this
theorem I8{x y:ByteArray}(h:strLt x y=true):x≠y:=fun e=>by rw[e,fA] at h;cases h
theorem Dz{x y:ByteArray}(h:x≠y)(h1:strLt y x=false):strLt x y=true:=by
 cases h2:strLt x y with
 |true=>rfl
 |false=>exact absurd (Dy h2 h1) h
theorem vh{x y z:ByteArray}(h1:strLt y x=false)(h2:strLt z y=false):strLt z x=false:=by
 cases h:strLt z x with
 |false=>rfl
 |true =>
  by_cases e:y=z
  ·rw[e,h] at h1;cases h1
  ·have:=o5 (Dz e h2) h;rw[h1] at this;cases this
section
variable {α:Type} (key:α→ByteArray)
def Fx(x:α):List α→List α
 |[]=>[x]
 |y::t=>bif strLt (key y) (key x) then y::Fx x t else x::y::t
def gg:List α→List α
 |[]=>[]
 |x::t=>Fx key x (gg t)
def rk(xs:List α)(s:ByteArray):Nat:=xs.countP fun t=>strLt (key t) s
def K4(xs:List α):Prop:=xs.Pairwise fun a b=>strLt (key a) (key b)=true
variable {key}
theorem wz(x:α):∀(l:List α),(Fx key x l).Perm (x::l)
 |[] => .refl _
 |y::t=>by
  unfold Fx
  cases strLt (key y) (key x) with
  |true=>exact((wz x t).cons y).trans (.swap x y t)
  |false=>exact .refl _
theorem jy:∀(l:List α),(gg key l).Perm l
 |[] => .refl _
 |x::t=>(wz x _).trans ((jy t).cons x)
theorem Ge(x:α):∀(l:List α),l.Pairwise (fun a b=>strLt (key b) (key a)=false)→(Fx key x l).Pairwise (fun a b=>strLt (key b) (key a)=false)
 |[],_=>by simp[Fx]
 |y::t,h=>by
  unfold Fx
  rw[List.pairwise_cons] at h
  cases hc:strLt (key y) (key x) with
  |true =>
   refine List.pairwise_cons.2 ⟨fun z hz => ?_,Ge x t h.2⟩
   rcases List.mem_cons.1 ((wz x t).mem_iff.1 hz) with rfl|hz
   ·exact o6 hc
   ·exact h.1 z hz
  |false =>
   refine List.pairwise_cons.2 ⟨fun z hz => ?_,List.pairwise_cons.2 h⟩
   rcases List.mem_cons.1 hz with rfl|hz
   ·exact hc
   ·exact vh hc (h.1 z hz)
theorem DA:∀(l:List α),(gg key l).Pairwise (fun a b=>strLt (key b) (key a)=false)
 |[] => .nil
 |x::t=>Ge x _ (DA t)
theorem nK(l:List α):(gg key l).length=l.length:=(jy l).length_eq
theorem Bk{l:List α}{x:α} : x∈gg key l↔x∈l:=(jy l).mem_iff
theorem sG{l:List α}(h:l.Pairwise (fun a b=>strLt (key b) (key a)=false))(hn:(l.map key).Nodup):K4 key l:=by
 have h2:l.Pairwise (fun a b=>key a≠key b):=List.pairwise_map.1 hn
 exact(h.and h2).imp fun ⟨h,h'⟩=>Dz h' h
theorem wA{l:List α}(hn:(l.map key).Nodup):K4 key (gg key l) :=
 sG (DA l) (((jy l).map key).nodup_iff.2 hn)
theorem Hb{l:List α}(h:K4 key l):(l.map key).Nodup:=List.pairwise_map.2 (h.imp fun h=>I8 h)
theorem DB:∀{xs ys:List α},K4 key xs→K4 key ys→xs.Perm ys→xs=ys
 |[],ys,_,_,hp=>(hp.symm.eq_nil).symm
 |x::xs,[],_,_,hp=>absurd hp.length_eq (by simp)
 |x::xs,y::ys,hx,hy,hp=>by
  have qV:=List.pairwise_cons.1 hx
  have yT:=List.pairwise_cons.1 hy
  have e:x=y:=by
   rcases List.mem_cons.1 (hp.mem_iff.1 (List.mem_cons_self ..)) with e|h1
   ·exact e
   ·rcases List.mem_cons.1 (hp.mem_iff.2 (List.mem_cons_self ..)) with e|h2
    ·exact e.symm
    ·have:=o5 (qV.1 y h2) (yT.1 x h1);rw[fA] at this;cases this
  subst e
  rw[DB qV.2 yT.2 (hp.cons_inv)]
theorem vi{xs ys:List α}(hn:(xs.map key).Nodup)(hs:K4 key ys)(hp:ys.Perm xs):ys=gg key xs :=
 DB hs (wA hn) (hp.trans (jy xs).symm)
theorem Ch{xs:List α}(h:K4 key xs):gg key xs=xs:=(vi (Hb h) h (.refl _)).symm
theorem Ci{xs ys:List α}(h:xs.Perm ys)(s:ByteArray):rk key xs s=rk key ys s:=h.countP_eq _
theorem Cj:∀{ys:List α} {p:Nat} {x:α},K4 key ys→ys[p]? = some x→rk key ys (key x)=p
 |y::ys,0,x,h,e=>by
  injection e with e;subst e
  have h:=List.pairwise_cons.1 h
  unfold rk
  rw[List.countP_cons_of_neg (by rw[fA];simp),List.countP_eq_zero]
  intro z hz;rw[o6 (h.1 z hz)];simp
 |y::ys,p+1,x,h,e=>by
  have h:=List.pairwise_cons.1 h
  have e:ys[p]? = some x:=e
  unfold rk
  have h1:strLt (key y) (key x)=true:=h.1 x (List.mem_of_getElem? e)
  rw[List.countP_cons_of_pos (p:=fun t=>strLt (key t) (key x)) h1]
  exact congrArg (·+1) (Cj h.2 e)
theorem vj{xs:List α}{x:α}(hn:(xs.map key).Nodup)(hx:x∈xs):(gg key xs)[rk key xs (key x)]? = some x:=by
 obtain⟨p,hp,e⟩:=List.getElem_of_mem (Bk.2 hx:x∈gg key xs)
 have h1:(gg key xs)[p]? = some x:=by rw[List.getElem?_eq_getElem hp,e]
 rw[←Ci (jy xs),Cj (wA hn) h1]
 exact h1
theorem PX{xs:List α}{x:α}(hn:(xs.map key).Nodup)(hx:x∈xs):rk key xs (key x)<xs.length:=by
 have:=(List.getElem?_eq_some_iff.1 (vj hn hx)).1
 rwa[nK] at this
theorem I9{xs:List α}{x y:α}(hn:(xs.map key).Nodup)(hx:x∈xs)(hy:y∈xs)(h:rk key xs (key x)=rk key xs (key y)):x=y:=by
 have h1:=vj hn hx
 rw[h,vj hn hy] at h1
 injection h1 with h1;exact h1.symm
theorem DC{xs out:List α}(hn:(xs.map key).Nodup)(hl:out.length=xs.length)(h:∀(i:Nat) x,xs[i]? = some x→out[rk key xs (key x)]? = some x):out=gg key xs:=by
 apply List.ext_getElem?
 intro k
 by_cases hk:k<xs.length
 ·have wT:k<(gg key xs).length:=by rw[nK];exact hk
  have e:=List.getElem?_eq_getElem wT
  have hm:(gg key xs)[k]∈xs:=Bk.1 (List.getElem_mem wT)
  obtain⟨i,hi,ei⟩:=List.getElem_of_mem hm
  have:=h i _ (by rw[List.getElem?_eq_getElem hi,ei])
  rw[←Ci (jy xs),Cj (wA hn) e] at this
  rw[this,e]
 ·rw[List.getElem?_eq_none (by omega),List.getElem?_eq_none (by rw[nK];omega)]
theorem zU{β:Type}{key':β→ByteArray}(f:α→β)(hf:∀x,key' (f x)=key x)(l:List α)(s:ByteArray):rk key' (l.map f) s=rk key l s:=by
 unfold rk
 rw[List.countP_map]
 congr 1;funext x;show strLt (key' (f x)) s=_;rw[hf]
end
end Go.Proofs.YtfjfekodeplcoaaGreat.Sym
namespace Go.Proofs.YtfjfekodeplcoaaGreat.Sym
open Go Path
abbrev Fit(l:Words):Prop:=l.length≤1099511627776
def aC.valid(a:aC):Bool:=bif a.cP.isEmpty then !a.neg else cn a.cP
def aC.val(a:aC):Int:=bif a.valid then (bif a.neg then -(nat a.cP:Int) else (nat a.cP:Int)) else 0
def whole(i:Int):aC:=⟨decide (i<0),words i.natAbs⟩
theorem aU(i:Int):(whole i).val=i:=by
 unfold aC.val aC.valid whole
 simp only[aJ]
 by_cases h:i=0
 ·subst h;rfl
 ·have h1:(words i.natAbs).isEmpty=false:=by
   rw[List.isEmpty_eq_false_iff]
   intro e
   rw[sF] at e
   omega
  rw[h1]
  simp only[cond_false,gL,cond_true]
  by_cases h2:i<0
  ·simp[h2];omega
  ·simp[h2];omega
theorem df{l:Words} : l.isEmpty=decide (l.length=0):=by cases l<;>simp
namespace fB
theorem Valid(a:aC)(h:Fit a.cP):Cp 75 [a.pv] (vB a.valid):=by
 unfold aC.valid
 rw[df]
 by_cases h0:a.cP.length=0
 ·simp only[h0,decide_true,cond_true]
  exact px.e0 a h0
 ·simp only[h0,decide_false,cond_false]
  obtain⟨v,hv⟩:∃v,a.cP[a.cP.length-1]? = some v:=⟨_,List.getElem?_eq_getElem (by omega)⟩
  have:=px.e1 a (a.cP.length-1) v h0 (by unfold aO;omega) (by omega) hv
  have e:cn a.cP=((v.toNat:Int) != 0):=by
   have h1:=mf hv
   by_cases h2:v.toNat=0
   ·have h3:((v.toNat:Int) != 0)=false:=by simp[h2]
    rw[h3]
    cases hc:cn a.cP with
    |true=>exact absurd h2 (h1.1 hc)
    |false=>rfl
   ·have h3:((v.toNat:Int) != 0)=true:=by simp;omega
    rw[h3];exact h1.2 h2
  rw[e];exact this
theorem yd(a:aC):decide (a.val<0)=(a.valid&&a.neg):=by
 unfold aC.val
 cases hv:a.valid with
 |false=>simp
 |true =>
  cases hn:a.neg with
  |false=>simp
  |true =>
   simp only[cond_true,Bool.and_true]
   unfold aC.valid at hv
   have:0<nat a.cP:=by
    cases he:a.cP.isEmpty with
    |true=>rw[he,hn] at hv;cases hv
    |false =>
     rw[he] at hv
     exact pA hv (by rw[←List.isEmpty_eq_false_iff];exact he)
   simp;omega
theorem Ck(a:aC):words a.val.natAbs=bif a.valid then a.cP else []:=by
 unfold aC.val
 cases hv:a.valid with
 |false=>rfl
 |true =>
  have hc:cn a.cP=true:=by
   unfold aC.valid at hv
   cases he:a.cP.isEmpty with
   |true=>rw[List.isEmpty_iff] at he;rw[he];rfl
   |false=>rw[he] at hv;exact hv
  cases hn:a.neg with
  |false=>simp only[cond_true,cond_false,Int.natAbs_natCast];exact eK hc
  |true=>simp only[cond_true,Int.natAbs_neg,Int.natAbs_natCast];exact eK hc
theorem cP(a:aC)(h:Fit a.cP):Cp 104 [a.pv] (aa (words a.val.natAbs)):=by
 rw[Ck]
 cases hv:a.valid with
 |false=>exact r8.e0 a a.valid (Valid a h) hv
 |true=>exact r8.e1 a a.valid (Valid a h) hv
theorem neg(a:aC)(h:Fit a.cP):Cp 102 [a.pv] (vB (decide (a.val<0))):=by
 rw[yd]
 cases hv:a.valid with
 |false=>exact r7.e1 a a.valid (Valid a h) hv
 |true=>rw[Bool.true_and];exact r7.e0 a a.valid (Valid a h) hv
theorem trim(m:Words)(h:m.length≤35184372088832):Cp 138 [aa m] (aa (words (nat m))):=by
 have loop:∀n:Nat,n≤m.length→nat (m.take n)=nat m→jK.au m (n:Int) (aa (words (nat m))):=by
  intro n
  induction n with
  |zero =>
   intro _ h2
   have:nat m=0:=by rw[←h2];rfl
   rw[this,fN]
   exact jK.Bf m _ (by omega) rfl
  |succ n ih =>
   intro h1 h2
   obtain⟨v,hv⟩:∃v,m[n]? = some v:=⟨_,List.getElem?_eq_getElem (by omega)⟩
   by_cases h0:v.toNat=0
   ·refine jK.eo m _ n v (by omega) (by unfold aO;omega) (by omega) hv h0 ?_
    rw[show ((n+1:Nat):Int)-1=(n:Int) from by omega]
    refine ih (by omega) ?_
    rw[bV hv,h0] at h2
    simpa using h2
   ·have:=jK.nr m ((n+1:Nat):Int) n v (n+1) (by omega) (by unfold aO;omega) (by omega) hv h0 (by omega) rfl h1 (by simp;omega)
    have e:words (nat m)=m.take (n+1):=by
     refine se ?_ h2
     refine(mf (v:=v) ?_).2 h0
     rw[List.length_take,Nat.min_eq_left h1,Nat.add_sub_cancel,List.getElem?_take,if_pos (by omega)]
     exact hv
    rw[e];exact this
 exact jK.e0 m (loop m.length (Nat.le_refl _) (bc (Nat.le_refl _)))
theorem whole(neg:Bool)(m:Words)(h:m.length≤35184372088832):Cp 101 [vB neg,aa m] (whole (bif neg then -(nat m:Int) else (nat m:Int))).pv:=by
 cases neg with
 |false =>
  have:=py.e1 false m _ (trim m h) rfl
  have e:decide ((nat m:Int)<0)=false:=by simp
  simp only[Sym.whole,cond_false,e,Int.natAbs_natCast]
  exact this
 |true =>
  have:=py.e0 true m _ (trim m h) rfl
  have e:decide (((words (nat m)).length:Int)>0)=decide (-(nat m:Int)<0):=by
   have:=dL (n:=nat m)
   by_cases h0:nat m=0
   ·have h1:=this.2 h0
    simp[h0,fN]
   ·have h1:¬(words (nat m)).length=0:=fun h=>h0 (this.1 h)
    rw[decide_eq_true (by omega),decide_eq_true (by omega)]
  rw[e] at this
  simpa[Sym.whole] using this
def wd(m:Words)(i:Nat):Nat:=match m[i]? with
 |some w=>w.toNat
 |none=>0
theorem mF(m:Words)(i:Nat):wd m i<4294967296:=by
 unfold wd
 cases m[i]? with
 |none=>simp
 |some w=>exact iD w
theorem iZ{m:Words}{i:Nat}{v:UInt32}(h:m[i]? = some v):wd m i=v.toNat:=by unfold wd;rw[h]
theorem vk{m:Words}{i:Nat}(h:m.length≤i):wd m i=0:=by unfold wd;rw[List.getElem?_eq_none h]
theorem dP(m:Words)(k:Nat):nat (m.take (k+1))=nat (m.take k)+4294967296^k*wd m k:=by
 by_cases h:k<m.length
 ·have hv:=List.getElem?_eq_getElem h
  rw[bV hv,iZ hv]
 ·rw[bc (by omega),bc (by omega),vk (by omega)]
  omega
theorem word(m:Words)(i:Nat):Cp 153 [aa m,vI (i:Int)] (vU (wd m i)):=by
 unfold wd
 cases h:m[i]? with
 |none =>
  have:=List.getElem?_eq_none_iff.1 h
  exact qG.e1 m i (by omega)
 |some v =>
  have:=(List.getElem?_eq_some_iff.1 h).1
  exact qG.e0 m i i v (by omega) rfl h
theorem plus(a b:Words)(ha:a.length≤2199023255552)(hb:b.length≤2199023255552):Cp 120 [aa a,aa b] (aa (words (nat a+nat b))):=by
 have hm:max a.length b.length≤2199023255552:=by omega
 have loop:∀(j t carry:Nat) (site:Words),max a.length b.length+1-t=j→t≤max a.length b.length+1→site.length=max a.length b.length+1→carry≤1 →
   nat (site.take t)+4294967296^t*carry=nat (a.take t)+nat (b.take t)→lh.au a b carry t site (aa (words (nat a+nat b))):=by
  intro j
  induction j with
  |zero =>
   intro t carry site hj ht hs hc hinv
   have AK:t=max a.length b.length+1:=by omega
   have Fy:nat site=nat a+nat b:=by
    rw[bc (by omega),bc (by omega),bc (by omega)] at hinv
    have h1:=ee a
    have h2:=ee b
    have h3:=lC (show a.length≤t-1 by omega)
    have h4:=lC (show b.length≤t-1 by omega)
    have h5:(4294967296:Nat)^t=4294967296^(t-1)*4294967296:=by rw[←Nat.pow_succ];congr 1;omega
    have PY:carry=0:=by
     cases carry with
     |zero=>rfl
     |succ c =>
      have h6:4294967296^t*1≤4294967296^t*(c+1):=Nat.mul_le_mul_left _ (by omega)
      omega
    subst PY;simpa using hinv
   have:=lh.ew a b carry t site (words (nat site)) (by omega) (by omega) (trim site (by omega))
   rwa[Fy] at this
  |succ j ih =>
   intro t carry site hj ht hs hc hinv
   have h1:=mF a t
   have h2:=mF b t
   obtain⟨w,hw⟩:=gK ((carry+(wd a t+wd b t))%4294967296) (by omega)
   refine lh.eo a b carry t site _ _ (wd a t+wd b t) (carry+(wd a t+wd b t)) w _ (by omega) (word a t) (word b t) (by omega) (by omega) hw.symm (by omega) rfl (by omega) ?_
   refine ih (t+1) _ (site.set t w) (by omega) (by omega) (by simpa using hs) (by simp;omega) ?_
   rw[gf (by omega),dP a t,dP b t,hw]
   have h5:(4294967296:Nat)^(t+1)=4294967296^t*4294967296:=Nat.pow_succ ..
   rw[h5,Nat.mul_assoc]
   have h6:4294967296^t*((carry+(wd a t+wd b t))%4294967296)+4294967296^t*(4294967296*((carry+(wd a t+wd b t))/2^min 32 64))=4294967296^t*carry+4294967296^t*wd a t+4294967296^t*wd b t:=by
    rw[←Nat.mul_add,←Nat.mul_add,←Nat.mul_add]
    congr 1
    have:(2:Nat)^min 32 64=4294967296:=by decide
    rw[this];omega
   omega
 exact lh.e0 a b (by omega) (by omega) (loop _ 0 0 _ rfl (by omega) (by simp) (by omega) (by simp[nat]))
end fB
def dW(a b:Int):Int:=if a<b then -1 else if a=b then 0 else 1
theorem o7{a b:Int}(h:a<b):dW a b = -1:=by simp[dW,h]
theorem qO{a b:Int}(h:b<a):dW a b=1:=by unfold dW;rw[if_neg (by omega),if_neg (by omega)]
theorem ye{a b:Int}(h:a=b):dW a b=0:=by unfold dW;rw[if_neg (by omega),if_pos h]
theorem wB(l:Words)(k:Nat){v:UInt32}(h:l[k]? = some v):nat l=nat (l.take k)+4294967296^k*v.toNat+4294967296^(k+1)*nat (l.drop (k+1)):=by
 have hk:=(List.getElem?_eq_some_iff.1 h).1
 rw[jO l k (by omega),qb h,Nat.pow_succ,Nat.mul_add,Nat.mul_assoc]
 omega
theorem zV{a b:Words}{k:Nat}{v w:UInt32}(ha:a[k]? = some v)(hb:b[k]? = some w)(hd:a.drop (k+1)=b.drop (k+1))(h:v.toNat<w.toNat):nat a<nat b:=by
 rw[wB a k ha,wB b k hb,hd]
 have h1:=ee (a.take k)
 have h2:=lC (show (a.take k).length≤k by simp;omega)
 have h3:4294967296^k*(v.toNat+1)≤4294967296^k*w.toNat:=Nat.mul_le_mul_left _ h
 rw[Nat.mul_add] at h3
 omega
namespace fB
theorem compare(a b:Words)(ha:cn a=true)(hb:cn b=true)(hl:a.length<9223372036854775808):Cp 117 [aa a,aa b] (vI (dW (nat a) (nat b))):=by
 by_cases hlen:a.length=b.length
 ·have loop:∀n:Nat,n≤a.length→a.drop n=b.drop n→dG.au a b ((n:Int)-1) (vI (dW (nat a) (nat b))):=by
   intro n
   induction n with
   |zero =>
    intro _ hd
    have:a=b:=by simpa using hd
    rw[ye (by rw[this])]
    exact dG.Bf a b _ (by omega)
   |succ n ih =>
    intro hn hd
    obtain⟨v,hv⟩:∃v,a[n]? = some v:=⟨_,List.getElem?_eq_getElem (by omega)⟩
    obtain⟨w,hw⟩:∃w,b[n]? = some w:=⟨_,List.getElem?_eq_getElem (by omega)⟩
    by_cases he:v.toNat=w.toNat
    ·refine dG.nr a b _ n v n w (by omega) (by omega) hv (by omega) hw he (by unfold aO;omega) ?_
     rw[show ((n+1:Nat):Int)-1-1=(n:Int)-1 from by omega]
     refine ih (by omega) ?_
     have h1:=List.getElem_of_getElem? hv
     obtain⟨h1,h2⟩:=List.getElem?_eq_some_iff.1 hv
     obtain⟨h3,h4⟩:=List.getElem?_eq_some_iff.1 hw
     rw[List.drop_eq_getElem_cons h1,List.drop_eq_getElem_cons h3,h2,h4,hd,NT he]
    ·by_cases cQ:v.toNat<w.toNat
     ·rw[o7 (by have:=zV hv hw hd cQ;omega)]
      exact dG.eo a b _ n v n w n v n w (by omega) (by omega) hv (by omega) hw he (by omega) hv (by omega) hw cQ
     ·rw[qO (by have:=zV hw hv hd.symm (by omega);omega)]
      exact dG.ew a b _ n v n w n v n w (by omega) (by omega) hv (by omega) hw he (by omega) hv (by omega) hw (by omega)
  refine dG.e2 a b hlen (by unfold aO;omega) (loop a.length (Nat.le_refl _) ?_)
  rw[List.drop_of_length_le (Nat.le_refl _),List.drop_of_length_le (by omega)]
 ·have key:∀x y:Words,cn y=true→x.length<y.length→nat x<nat y:=by
   intro x y hy cQ
   have h1:=ee x
   have h2:=Du hy (by intro e;rw[e] at cQ;simp at cQ)
   have h3:=lC (show x.length≤y.length-1 by omega)
   omega
  by_cases cQ:a.length<b.length
  ·rw[o7 (by have:=key a b hb cQ;omega)]
   exact dG.e0 a b hlen cQ
  ·rw[qO (by have:=key b a ha (by omega);omega)]
   exact dG.e1 a b hlen (by omega)
theorem less(a b:Words)(ha:a.length≤2199023255552)(lE:nat b≤nat a):Cp 121 [aa a,aa b] (aa (words (nat a-nat b))):=by
 have loop:∀(j t borrow:Nat) (site:Words),a.length-t=j→t≤a.length→site.length=a.length→borrow≤1 →
   nat (site.take t)+nat (b.take t)=nat (a.take t)+4294967296^t*borrow→lj.au a b borrow t site (aa (words (nat a-nat b))):=by
  intro j
  induction j with
  |zero =>
   intro t borrow site hj ht hs hc hinv
   have AK:t=a.length:=by omega
   have Fy:nat site=nat a-nat b:=by
    subst AK
    rw[bc (by omega),bc (l:=a) (by omega)] at hinv
    have h1:=ee a
    have h2:=ee site
    rw[hs] at h2
    have h3:nat (b.take a.length)=nat b:=by
     by_cases hl:b.length≤a.length
     ·exact bc hl
     ·have h4:=jO b a.length (by omega)
      have h5:nat (b.drop a.length)=0:=by
       refine Nat.eq_zero_of_not_pos fun hp => ?_
       have:=Nat.mul_le_mul_left (4294967296^a.length) hp
       omega
      rw[h5] at h4;omega
    have Em:borrow=0:=by
     refine Nat.eq_zero_of_not_pos fun hp => ?_
     have:=Nat.mul_le_mul_left (4294967296^a.length) hp
     omega
    subst Em
    omega
   have:=lj.ew a b borrow t site (words (nat site)) (by omega) (by omega) (trim site (by omega))
   rwa[Fy] at this
  |succ j ih =>
   intro t borrow site hj ht hs hc hinv
   obtain⟨v,hv⟩:∃v,a[t]? = some v:=⟨_,List.getElem?_eq_getElem (by omega)⟩
   have h1:=iD v
   have h2:=mF b t
   have hz:∃(d d1 x nb:Nat),((v.toNat:Nat)-(wd b t:Nat):Int)%18446744073709551616=(d:Int)∧((d:Nat)-(borrow:Nat):Int)%18446744073709551616=(d1:Int)∧d1%4294967296=x∧d1/2^min 63 64=nb∧nb≤1∧x<4294967296∧x+wd b t+borrow=v.toNat+4294967296*nb:=by
    refine⟨(((v.toNat:Nat)-(wd b t:Nat):Int)%18446744073709551616).toNat,((((v.toNat:Nat)-(wd b t:Nat):Int)%18446744073709551616-borrow)%18446744073709551616).toNat,_,_,by omega,by omega,rfl,rfl,?_⟩
    have e:(2:Nat)^min 63 64=9223372036854775808:=by decide
    rw[e]
    generalize wd b t=q at *
    generalize v.toNat=p at *
    by_cases LR:q+borrow≤p
    ·have e1:(((p:Int)-(q:Int))%18446744073709551616-borrow)%18446744073709551616=(p:Int)-q-borrow:=by omega
     rw[e1];omega
    ·have e1:(((p:Int)-(q:Int))%18446744073709551616-borrow)%18446744073709551616=(p:Int)-q-borrow+18446744073709551616:=by omega
     rw[e1];omega
   obtain⟨d,d1,x,nb,g1,g2,g3,g4,g5,g6,g7⟩:=hz
   obtain⟨w,hw⟩:=gK x g6
   refine lj.eo a b borrow t site v _ d d1 w nb (by omega) hv (word b t) g1 g2 (by omega) (by omega) g4 (by omega) ?_
   refine ih (t+1) nb (site.set t w) (by omega) (by omega) (by simpa using hs) g5 ?_
   rw[gf (by omega),bV hv,dP b t,hw,Nat.pow_succ,Nat.mul_assoc]
   have h6:4294967296^t*x+4294967296^t*wd b t+4294967296^t*borrow=4294967296^t*v.toNat+4294967296^t*(4294967296*nb):=by
    rw[←Nat.mul_add,←Nat.mul_add,←Nat.mul_add,g7]
   omega
 exact lj.e0 a b (by omega) (loop _ 0 0 _ rfl (by omega) (by simp) (by omega) (by simp[nat]))
theorem vl{p q:Nat}(hp:p<4294967296)(hq:q<4294967296):p*q≤18446744065119617025:=by
 have:=Nat.mul_le_mul (show p≤4294967295 by omega) (show q≤4294967295 by omega)
 omega
theorem times(a b:Words)(ha:a.length≤2199023255552)(hb:b.length≤2199023255552):Cp 103 [aa a,aa b] (aa (words (nat a*nat b))):=by
 have inner:∀(i:Nat) (v:UInt32) (r:PV),i<a.length→(∀site:Words,site.length=a.length+b.length→nat site=nat (a.take i)*nat b+4294967296^i*(v.toNat*nat b)→(∀q,i+1+b.length≤q→q<site.length→wd site q=0)→eO.au b a (i+1) site r) →
   ∀(j k carry:Nat) (site:Words),b.length-k=j→k≤b.length→site.length=a.length+b.length→carry<4294967296→(∀q,i+b.length≤q→q<site.length→wd site q=0) →
   nat site+4294967296^(i+k)*carry=nat (a.take i)*nat b+4294967296^i*(v.toNat*nat (b.take k))→eO.aM b a i v carry i k site r:=by
  intro i v r hi ET j
  induction j with
  |zero =>
   intro k carry site hj hk hs hc hz hinv
   have SP:k=b.length:=by omega
   subst SP
   obtain⟨w,hw⟩:=gK carry hc
   refine eO.mY b a i v carry i b.length site w (by omega) (by omega) (by omega) (by omega) (by omega) (by omega) (ET _ (by simpa using hs) ?_ ?_)
   ·obtain⟨u,hu⟩:∃u,site[i+b.length]? = some u:=⟨_,List.getElem?_eq_getElem (by omega)⟩
    have h0:=hz (i+b.length) (by omega) (by omega)
    rw[iZ hu] at h0
    have h1:=o4 site (i+b.length) w u hu
    rw[h0,hw] at h1
    rw[bc (l:=b) (by omega)] at hinv
    omega
   ·intro q ON Eh
    rw[List.length_set] at Eh
    have:=hz q (by omega) Eh
    unfold wd at this ⊢
    rw[List.getElem?_set_ne (by omega)]
    exact this
  |succ j ih =>
   intro k carry site hj hk hs hc hz hinv
   obtain⟨u,hu⟩:∃u,b[k]? = some u:=⟨_,List.getElem?_eq_getElem (by omega)⟩
   obtain⟨x,hx⟩:∃x,site[i+k]? = some x:=⟨_,List.getElem?_eq_getElem (by omega)⟩
   have h1:=vl (iD v) (iD u)
   have h2:=iD x
   generalize hp:v.toNat*u.toNat=p at *
   obtain⟨w,hw⟩:=gK ((carry+(p+x.toNat))%4294967296) (by omega)
   have e:(2:Nat)^min 32 64=4294967296:=by decide
   refine eO.mX b a i v carry i k site u p x (p+x.toNat) (carry+(p+x.toNat)) w ((carry+(p+x.toNat))/4294967296) (by omega) hu (by rw[hp];omega) (by omega) (by omega) hx (by omega) (by omega) hw.symm (by omega) (by rw[e]) (by omega) ?_
   refine ih (k+1) _ (site.set (i+k) w) (by omega) (by omega) (by simpa using hs) (by omega) ?_ ?_
   ·intro q ON Eh
    rw[List.length_set] at Eh
    have:=hz q ON Eh
    unfold wd at this ⊢
    rw[List.getElem?_set_ne (by omega)]
    exact this
   ·have g1:=o4 site (i+k) w x hx
    rw[hw] at g1
    rw[bV hu,show i+(k+1)=i+k+1 from rfl,Nat.pow_succ,Nat.mul_assoc]
    have g2:4294967296^(i+k)*((carry+(p+x.toNat))%4294967296)+4294967296^(i+k)*(4294967296*((carry+(p+x.toNat))/4294967296))=4294967296^(i+k)*carry+4294967296^(i+k)*p+4294967296^(i+k)*x.toNat:=by
     rw[←Nat.mul_add,←Nat.mul_add,←Nat.mul_add];congr 1;omega
    have g3:4294967296^i*(v.toNat*(nat (b.take k)+4294967296^k*u.toNat))=4294967296^i*(v.toNat*nat (b.take k))+4294967296^(i+k)*p:=by
     rw[←hp,Nat.pow_add,Nat.mul_add,Nat.mul_add]
     congr 1
     rw[Nat.mul_assoc];congr 1
     rw[Nat.mul_left_comm]
    omega
 have loop:∀(j t:Nat) (site:Words),a.length-t=j→t≤a.length→site.length=a.length+b.length→nat site=nat (a.take t)*nat b→(∀q,t+b.length≤q→q<site.length→wd site q=0) →
   eO.au b a t site (aa (words (nat a*nat b))):=by
  intro j
  induction j with
  |zero =>
   intro t site hj ht hs hinv _
   rw[bc (by omega)] at hinv
   have:=eO.ew b a t site (words (nat site)) (by omega) (by omega) (trim site (by omega))
   rwa[hinv] at this
  |succ j ih =>
   intro t site hj ht hs hinv hz
   obtain⟨v,hv⟩:∃v,a[t]? = some v:=⟨_,List.getElem?_eq_getElem (by omega)⟩
   refine eO.eo b a t site v (by omega) hv ?_
   refine inner t v _ (by omega) (fun Ja EB Po Ei => ?_) _ 0 0 site rfl (by omega) hs (by omega) hz ?_
   ·refine ih (t+1) Ja (by omega) (by omega) EB ?_ Ei
    rw[Po,bV hv,Nat.add_mul,Nat.mul_assoc]
   ·simp[nat,hinv]
 refine eO.e0 a b (by omega) (by omega) (loop _ 0 _ rfl (by omega) (by simp) (by simp[nat,l7]) ?_)
 intro q _ hq
 unfold wd
 rw[List.getElem?_replicate]
 split
 ·rename_i w h
  split at h
  ·injection h with h;subst h;rfl
  ·cases h
 ·rfl
theorem Cl{x y:Nat}(hx:x<4294967296)(hy:y<4294967296):((x*4294967296)%18446744073709551616) ||| (y%18446744073709551616)=x*4294967296+y:=by
 rw[Nat.mod_eq_of_lt (by omega),Nat.mod_eq_of_lt (by omega),Nat.mul_comm]
 exact(Nat.two_pow_add_eq_or_of_lt (i:=32) hy x).symm
theorem short(a:Words)(b:UInt32)(ha:a.length≤2199023255552)(hb:b.toNat≠0):Cp 147 [aa a,vW b] (.bx [aa (words (nat a/b.toNat)),vW (UInt32.ofNat (nat a%b.toNat))]):=by
 have K0:=iD b
 have loop:∀(n rest:Nat) (site:Words),n≤a.length→site.length=a.length→rest<b.toNat→nat (a.drop n)=nat (site.drop n)*b.toNat+rest →
   j8.au a b rest ((n:Int)-1) site (.bx [aa (words (nat a/b.toNat)),vW (UInt32.ofNat (nat a%b.toNat))]):=by
  intro n
  induction n with
  |zero =>
   intro rest site _ hs hr hinv
   simp only[List.drop_zero] at hinv
   have h1:nat a/b.toNat=nat site:=by rw[hinv,Nat.mul_comm,Nat.mul_add_div (by omega),Nat.div_eq_of_lt hr,Nat.add_zero]
   have h2:nat a%b.toNat=rest:=by rw[hinv,Nat.mul_comm,Nat.mul_add_mod,Nat.mod_eq_of_lt hr]
   have hw:rest%4294967296=(UInt32.ofNat rest).toNat:=(vg rest).symm
   rw[h1,h2]
   exact j8.ew a b rest _ site (words (nat site)) _ (by omega) hs.symm (trim site (by omega)) hw
  |succ n ih =>
   intro rest site hn hs hr hinv
   obtain⟨v,hv⟩:∃v,a[n]? = some v:=⟨_,List.getElem?_eq_getElem (by omega)⟩
   have xA:=iD v
   have e:(2:Nat)^min 32 64=4294967296:=by decide
   have hq:(rest*4294967296+v.toNat)/b.toNat<4294967296:=by
    rw[Nat.div_lt_iff_lt_mul (by omega)]
    have:=Nat.mul_le_mul_right 4294967296 (show rest+1≤b.toNat by omega)
    rw[Nat.add_mul] at this
    rw[Nat.mul_comm 4294967296];omega
   obtain⟨w,hw⟩:=gK _ hq
   refine j8.eo a b rest _ site _ n v (rest*4294967296+v.toNat) ((rest*4294967296+v.toNat)/b.toNat) w n ((rest*4294967296+v.toNat)%b.toNat) (by omega) rfl (by omega) hv ?_ hb (by omega) (by omega) (by omega) (by omega) (by omega) rfl (by unfold aO;omega) ?_
   ·rw[e,Nat.mod_eq_of_lt (show rest*4294967296<18446744073709551616 by omega)]
    exact(by have:=Cl (show rest<4294967296 by omega) xA;rw[Nat.mod_eq_of_lt (show rest*4294967296<18446744073709551616 by omega)] at this;rw[Nat.mod_eq_of_lt (show rest*4294967296<18446744073709551616 by omega)];exact this)
   ·rw[show ((n+1:Nat):Int)-1-1=(n:Int)-1 from by omega]
    refine ih _ (site.set n w) (by omega) (by simpa using hs) (Nat.mod_lt _ (by omega)) ?_
    rw[qb hv,qb (l:=site.set n w) (v:=w) (by rw[List.getElem?_set_self (by omega)]),List.drop_set_of_lt (by omega),hinv,hw]
    have h5:=Nat.div_add_mod (rest*4294967296+v.toNat) b.toNat
    generalize (rest*4294967296+v.toNat)/b.toNat=q at *
    generalize (rest*4294967296+v.toNat)%b.toNat=m at *
    generalize nat (site.drop (n+1))=S at *
    generalize b.toNat=B at *
    rw[Nat.add_mul,Nat.mul_add,Nat.mul_comm q B]
    rw[←Nat.mul_assoc]
    omega
 have:=j8.e0 a b (r:=_) (by omega) (by unfold aO;omega) (loop a.length 0 _ (Nat.le_refl _) (by simp) (by omega) (by rw[List.drop_of_length_le (Nat.le_refl _),List.drop_of_length_le (by simp)];simp[nat]))
 exact this
end fB
def blen(n:Nat):Nat:=bif Nat.beq n 0 then 0 else Nat.log2 n+1
theorem K5{n k:Nat}(h1:2^k≤n)(h2:n<2^(k+1)):blen n=k+1:=by
 have h0:n≠0:=by have:=Nat.two_pow_pos k;omega
 have hb:Nat.beq n 0=false:=by
  cases hb:Nat.beq n 0 with
  |true=>exact absurd (Nat.eq_of_beq_eq_true hb) h0
  |false=>rfl
 unfold blen
 rw[hb,cond_false]
 congr 1
 have g1:=(Nat.le_log2 h0).2 h1
 have g2:=(Nat.log2_lt h0).2 h2
 omega
theorem sH:blen 0=0:=rfl
theorem sI{n:Nat}(h:n≠0):∃k,blen n=k+1∧2^k≤n∧n<2^(k+1):=by
 have hb:Nat.beq n 0=false:=by
  cases hb:Nat.beq n 0 with
  |true=>exact absurd (Nat.eq_of_beq_eq_true hb) h
  |false=>rfl
 refine⟨Nat.log2 n,?_,Nat.log2_self_le h,Nat.lt_log2_self⟩
 unfold blen
 rw[hb,cond_false]
theorem sf{n k:Nat}(h:2^k≤n):blen n=k+blen (n/2^k):=by
 have hk:=Nat.two_pow_pos k
 have h0:n/2^k≠0:=by
  have:=Nat.div_pos h hk
  omega
 obtain⟨m,h1,h2,h3⟩:=sI h0
 have:=K5 (n:=n) (k:=k+m) (by
  rw[Nat.pow_add]
  have:=Nat.mul_le_mul_left (2^k) h2
  have:=Nat.mul_div_le n (2^k)
  omega) (by
  have h4:=(Nat.div_lt_iff_lt_mul hk).1 h3
  rw[←Nat.pow_add] at h4
  rw[show k+m+1=m+1+k from by omega]
  exact h4)
 omega
theorem nD{n k:Nat}(h:n<2^k):blen n≤k:=by
 by_cases h0:n=0
 ·subst h0;simp[sH]
 ·obtain⟨m,h1,h2,_⟩:=sI h0
  have:=(Nat.pow_lt_pow_iff_right (a:=2) (by omega)).1 (Nat.lt_of_le_of_lt h2 h)
  omega
theorem K6(n:Nat):n<2^blen n:=by
 by_cases h0:n=0
 ·subst h0;simp[sH]
 ·obtain⟨m,h1,_,h3⟩:=sI h0
  rw[h1];exact h3
namespace Jb
def Ui:ByteArray:=(ByteArray.mk #[0,1,2,2,3,3,3,3,4,4,4,4,4,4,4,4,5,5,5,5,5,5,5,5,5,5,5,5,5,5,5,5,6,6,6,6,6,6,6,6,6,6,6,6,6,6,6,6,6,6,6,6,6,6,6,6,6,6,6,6,6,6,6,6,7,7,7,7,7,7,7,7,7,7,7,7,7,7,7,7,7,7,7,7,7,7,7,7,7,7,7,7,7,7,7,7,7,7,7,7,7,7,7,7,7,7,7,7,7,7,7,7,7,7,7,7,7,7,7,7,7,7,7,7,7,7,7,7,8,8,8,8,8,8,8,8,8,8,8,8,8,8,8,8,8,8,8,8,8,8,8,8,8,8,8,8,8,8,8,8,8,8,8,8,8,8,8,8,8,8,8,8,8,8,8,8,8,8,8,8,8,8,8,8,8,8,8,8,8,8,8,8,8,8,8,8,8,8,8,8,8,8,8,8,8,8,8,8,8,8,8,8,8,8,8,8,8,8,8,8,8,8,8,8,8,8,8,8,8,8,8,8,8,8,8,8,8,8,8,8,8,8,8,8,8,8,8,8,8,8,8,8,8,8,8,8])
theorem K7:(List.range 256).all (fun m=>((Ui.data.toList[m]?).map fun b=>(b.toNat:Int))==some (blen m:Int))=true:=by decide +kernel
theorem zW{m:Nat}(h:m<256):((Ui.data.toList[m]?).map fun b=>(b.toNat:Int))=some (blen m:Int):=by
 have:=K7
 rw[List.all_eq_true] at this
 simpa using this m (by simpa using h)
theorem PZ(x:UInt32):Cp 165 [vW x] (vI (blen x.toNat)):=by
 have hx:=iD x
 have OM:(2:Nat)^min 16 32=65536:=by decide
 have e8:(2:Nat)^min 8 32=256:=by decide
 by_cases h1:65536≤x.toNat
 ·obtain⟨z,hz⟩:=gK (x.toNat/65536) (by omega)
  have b1:=sf (n:=x.toNat) (k:=16) h1
  rw[show (2:Nat)^16=65536 from rfl] at b1
  by_cases h2:256≤x.toNat/65536
  ·obtain⟨z1,Fz⟩:=gK (x.toNat/65536/256) (by omega)
   have b2:=sf (n:=x.toNat/65536) (k:=8) h2
   rw[show (2:Nat)^8=256 from rfl] at b2
   have b3:=nD (n:=x.toNat/65536/256) (k:=8) (by rw[show (2:Nat)^8=256 from rfl];omega)
   have:=iC.e0 x z z1 (x.toNat/65536/256) (blen (x.toNat/65536/256)) h1 (by rw[OM,hz]) (by omega) (by rw[e8,Fz,hz]) (by omega) (zW (by omega)) (by omega) (by omega)
   rw[b1,b2,←Nat.add_assoc];exact this
  ·have b3:=nD (n:=x.toNat/65536) (k:=8) (by rw[show (2:Nat)^8=256 from rfl];omega)
   have:=iC.e1 x z (x.toNat/65536) (blen (x.toNat/65536)) h1 (by rw[OM,hz]) (by omega) (by omega) (zW (by omega)) (by omega) (by omega)
   rw[b1];exact this
 ·by_cases h2:256≤x.toNat
  ·obtain⟨z,hz⟩:=gK (x.toNat/256) (by omega)
   have b1:=sf (n:=x.toNat) (k:=8) h2
   rw[show (2:Nat)^8=256 from rfl] at b1
   have b3:=nD (n:=x.toNat/256) (k:=8) (by rw[show (2:Nat)^8=256 from rfl];omega)
   have:=iC.e2 x z (x.toNat/256) (blen (x.toNat/256)) (by omega) h2 (by rw[e8,hz]) (by omega) (zW (by omega)) (by omega) (by omega)
   rw[b1];exact this
  ·have b3:=nD (n:=x.toNat) (k:=8) (by rw[show (2:Nat)^8=256 from rfl];omega)
   have:=iC.e3 x x.toNat (blen x.toNat) (by omega) (by omega) (by omega) (zW (by omega)) (by omega) (by omega)
   rw[Nat.zero_add] at this;exact this
theorem zX(x:UInt32):Cp 148 [vW x] (vI ((32-blen x.toNat:Nat):Int)):=by
 have h:=nD (n:=x.toNat) (k:=32) (iD x)
 have:=j9.e0 x _ (PZ x) (by unfold aO;omega)
 rw[show ((32-blen x.toNat:Nat):Int)=32-(blen x.toNat:Int) from by omega]
 exact this
end Jb
theorem Bl{s:Nat}(hs:s≤32):2^s*2^(32-s)=4294967296:=by
 rw[←Nat.pow_add,show s+(32-s)=32 from by omega]
namespace fB
theorem K8{v1 v:Nat}{s:Nat}(hs:s<32)(h1:v1<2^s)(hv:v<4294967296) :
  ∃y w z x,(v*2^min s 64)%18446744073709551616=y∧y%4294967296=w∧(v1%4294967296) ||| (w%4294967296)=z∧z<4294967296∧y/4294967296=x∧x<2^s∧w<4294967296∧z+4294967296*x=v1+v*2^s:=by
 have e:=Bl (show s≤32 by omega)
 have hp:=Nat.two_pow_pos s
 have hle:2^s≤2147483648:=by
  have:=Nat.pow_le_pow_right (n:=2) (by omega) (show s≤31 by omega)
  simpa using this
 have MH:min s 64=s:=by omega
 rw[MH]
 have hb:v*2^s<18446744073709551616:=by
  have:=Nat.mul_le_mul (show v≤4294967295 by omega) hle
  omega
 rw[Nat.mod_eq_of_lt hb]
 generalize hP:2^s=p at *
 generalize hQ:2^(32-s)=q at *
 have hw:(v*p)%4294967296=p*(v%q):=by rw[←e,Nat.mul_comm v p,Nat.mul_mod_mul_left]
 have hx:(v*p)/4294967296=v/q:=by rw[←e,Nat.mul_comm v p,Nat.mul_div_mul_left _ _ hp]
 have hq:0<q:=by rw[←hQ];exact Nat.two_pow_pos _
 have hm:=Nat.mod_lt v hq
 have cQ:p*(v%q)+p≤4294967296:=by
  have:=Nat.mul_le_mul_left p (show v%q+1≤q by omega)
  rw[Nat.mul_add,e] at this;omega
 have OO:v1 ||| p*(v%q)=p*(v%q)+v1:=by
  rw[Nat.or_comm]
  subst hP
  exact(Nat.two_pow_add_eq_or_of_lt h1 (v%q)).symm
 refine⟨_,_,_,_,rfl,rfl,rfl,?_,rfl,?_,by omega,?_⟩
 ·rw[hw,Nat.mod_eq_of_lt (show v1<4294967296 by omega),Nat.mod_eq_of_lt (show p*(v%q)<4294967296 by omega),OO];omega
 ·rw[hx,Nat.div_lt_iff_lt_mul hq,e];exact hv
 ·rw[hw,Nat.mod_eq_of_lt (show v1<4294967296 by omega),Nat.mod_eq_of_lt (show p*(v%q)<4294967296 by omega),OO,hx]
  have:=Nat.div_add_mod v q
  have h3:p*v=p*(q*(v/q))+p*(v%q):=by rw[←Nat.mul_add,this]
  rw[←Nat.mul_assoc,e] at h3
  rw[Nat.mul_comm v p];omega
def K9(a:Words)(s t:Nat)(site:Words):Prop:=site.length=a.length+1∧nat site=nat (a.take t)*2^s∧(∀q,t<q→q<site.length→wd site q=0)∧wd site t<2^s
theorem La{a:Words}{s t:Nat}{site:Words}{v v1 z x:UInt32}(hi:K9 a s t site)(ht:t<a.length)(hv:a[t]? = some v)(vm:site[t]? = some v1)(hx:x.toNat<2^s)(he:z.toNat+4294967296*x.toNat=v1.toNat+v.toNat*2^s) :
  K9 a s (t+1) ((site.set t z).set (t+1) x):=by
 obtain⟨h1,h2,h3,h4⟩:=hi
 refine⟨by simpa using h1,?_,fun q ON Eh => ?_,?_⟩
 ·obtain⟨u,hu⟩:∃u,(site.set t z)[t+1]? = some u:=⟨_,List.getElem?_eq_getElem (by simp;omega)⟩
  have HP:u.toNat=0:=by
   have:=h3 (t+1) (by omega) (by omega)
   rw[List.getElem?_set_ne (by omega)] at hu
   rw[iZ hu] at this;exact this
  have g1:=o4 site t z v1 vm
  have g2:=o4 (site.set t z) (t+1) x u hu
  rw[HP,Nat.mul_zero,Nat.add_zero,Nat.pow_succ,Nat.mul_assoc] at g2
  rw[bV hv,Nat.add_mul,←h2]
  have g3:4294967296^t*z.toNat+4294967296^t*(4294967296*x.toNat)=4294967296^t*v1.toNat+4294967296^t*v.toNat*2^s:=by
   rw[←Nat.mul_add,he,Nat.mul_add,Nat.mul_assoc]
  omega
 ·rw[List.length_set,List.length_set] at Eh
  have:=h3 q (by omega) Eh
  unfold wd at this ⊢
  rw[List.getElem?_set_ne (by omega),List.getElem?_set_ne (by omega)]
  exact this
 ·rw[iZ (v:=x) (by rw[List.getElem?_set_self (by simp;omega)])];exact hx
theorem Lb(a:Words)(s:Nat):K9 a s 0 (List.replicate (a.length+1) (0:UInt32)):=by
 refine⟨by simp,by simp[nat,l7],fun q _ hq => ?_,?_⟩
 ·unfold wd
  rw[List.getElem?_replicate]
  rw[List.length_replicate] at hq
  rw[if_pos hq];rfl
 ·unfold wd
  rw[List.getElem?_replicate,if_pos (by omega)]
  exact Nat.two_pow_pos s
theorem up(a:Words)(s:Nat)(ha:a.length≤2199023255552)(hs:s<32):∃z:Words,z.length=a.length+1∧nat z=nat a*2^s∧Cp 149 [aa a,vI (s:Int)] (aa z) ∧
  av bp 149 [.pv (aa a),.pv (vI (s:Int))] [] (.row 0 0 (a.length+1) 1) [(0,(.pure ((z:List UInt32).map af).flatten))]:=by
 have loop:∀(j t:Nat) (site:Words),a.length-t=j→t≤a.length→K9 a s t site →
   ∃z:Words,z.length=a.length+1∧nat z=nat a*2^s∧nY.au (s:Int) a t site (aa z)∧my.au (s:Int) a t site [] (.row 0 0 (a.length+1) 1) [(0,(.pure ((z:List UInt32).map af).flatten))]:=by
  intro j
  induction j with
  |zero =>
   intro t site hj ht hi
   obtain⟨h1,h2,_,_⟩:=hi
   rw[bc (by omega)] at h2
   exact⟨site,h1,h2,nY.ew _ a t site (by omega) h1.symm,by have h9:=my.ew (s:Int) a t site (sin:=[]) rfl rfl (by omega);rw[List.take_of_length_le (by omega)] at h9;exact h9⟩
  |succ j ih =>
   intro t site hj ht hi
   obtain⟨v,hv⟩:∃v,a[t]? = some v:=⟨_,List.getElem?_eq_getElem (by omega)⟩
   obtain⟨v1,vm⟩:∃v1,site[t]? = some v1:=⟨_,List.getElem?_eq_getElem (by have:=hi.1;omega)⟩
   have SQ:v1.toNat<2^s:=by have:=hi.2.2.2;rw[iZ vm] at this;exact this
   obtain⟨y,w,z,x,g1,g2,g3,g4,g5,g6,g7,g8⟩:=K8 hs SQ (iD v)
   obtain⟨w',Uj⟩:=gK w g7
   obtain⟨z',Ei⟩:=gK z g4
   have hp:=Nat.pow_le_pow_right (n:=2) (by omega) (show s≤32 by omega)
   have hp:2^s≤4294967296:=hp
   obtain⟨x',qV⟩:=gK x (by omega)
   have e:(2:Nat)^min 32 64=4294967296:=by decide
   have hlen:=hi.1
   obtain⟨zz,q1,q2,q3,q4⟩:=ih (t+1) _ (by omega) (by omega) (La hi (by omega) hv vm (x:=x') (z:=z') (by omega) (by rw[Ei,qV];exact g8))
   refine⟨zz,q1,q2,?_,?_⟩
   ·exact nY.eo _ a t site v s y v1 w' z' x x' (by omega) hv rfl g1 (by omega) vm (by omega) (by rw[Uj];omega) (by omega) (by omega) (by rw[e];exact g5) (by omega) (by omega) (by simp;omega) q3
   ·exact my.eo _ a t site v s y v1 w' z' x x' rfl (by omega) hv rfl g1 (by omega) vm (by omega) (by rw[Uj];omega) (by omega) (by omega) (by rw[e];exact g5) (by omega) (by omega) (by simp;omega) q4
 obtain⟨z,h1,h2,h3,h4⟩:=loop a.length 0 _ rfl (by omega) (Lb a s)
 exact⟨z,h1,h2,nY.e0 a _ (by omega) (by omega) h3,my.e0 a _ (by omega) (by omega) h4⟩
theorem Lc{x y:Nat}(hx:x<4294967296)(hy:y<4294967296):(x%18446744073709551616) ||| ((y*4294967296)%18446744073709551616%18446744073709551616)=y*4294967296+x:=by
 rw[Nat.or_comm,Nat.mod_mod];exact Cl hy hx
theorem jz(a:Words)(t:Nat):nat (a.drop t)=wd a t+4294967296*nat (a.drop (t+1)):=by
 by_cases h:t<a.length
 ·have hv:=List.getElem?_eq_getElem h
  rw[qb hv,iZ hv]
 ·rw[List.drop_of_length_le (by omega),List.drop_of_length_le (by omega),vk (by omega)];rfl
theorem sg(a:Words)(t:Nat)(ht:t≤a.length):nat a/4294967296^t=nat (a.drop t):=by
 have h1:=ee (a.take t)
 rw[List.length_take,Nat.min_eq_left ht] at h1
 rw[jO a t ht,Nat.add_comm,Nat.mul_add_div (by omega),Nat.div_eq_of_lt h1,Nat.add_zero]
theorem down(a:Words)(s:Nat)(ha:a.length≤2199023255552)(hs:s<32):Cp 152 [aa a,vI (s:Int)] (aa (words (nat a/2^s))):=by
 have hp:=Nat.two_pow_pos s
 have e2:=Bl (show s≤32 by omega)
 have loop:∀(j t:Nat) (site:Words),a.length-t=j→t≤a.length→site.length=a.length→nat (site.take t)=(nat a/2^s)%4294967296^t→ll.au a (s:Int) t site (aa (words (nat a/2^s))):=by
  intro j
  induction j with
  |zero =>
   intro t site hj ht hl hinv
   have AK:t=a.length:=by omega
   subst AK
   rw[bc (by omega),Nat.mod_eq_of_lt (Nat.lt_of_le_of_lt (Nat.div_le_self _ _) (ee a))] at hinv
   have:=ll.ew a (s:Int) a.length site (words (nat site)) (by omega) hl.symm (trim site (by omega))
   rwa[hinv] at this
  |succ j ih =>
   intro t site hj ht hl hinv
   obtain⟨v,hv⟩:∃v,a[t]? = some v:=⟨_,List.getElem?_eq_getElem (by omega)⟩
   have h1:=iD v
   have h2:=mF a (t+1)
   have e:(2:Nat)^min 32 64=4294967296:=by decide
   obtain⟨w,hw⟩:=gK ((wd a (t+1)*4294967296+v.toNat)/2^s%4294967296) (Nat.mod_lt _ (by omega))
   refine ll.eo a (s:Int) t site v (wd a (t+1)) _ (wd a (t+1)*4294967296+v.toNat) s ((wd a (t+1)*4294967296+v.toNat)/2^s) w (by omega) hv (by omega) (word a (t+1)) rfl (by rw[e];exact Lc h1 h2) rfl (by rw[show min s 64=s from by omega]) hw.symm (by omega) ?_
   refine ih (t+1) (site.set t w) (by omega) (by omega) (by simpa using hl) ?_
   rw[gf (by omega),hinv,hw]
   have g1:nat a/2^s/4294967296^t=nat (a.drop t)/2^s:=by
    rw[Nat.div_div_eq_div_mul,Nat.mul_comm,←Nat.div_div_eq_div_mul,sg a t (by omega)]
   have g2:nat (a.drop t)/2^s%4294967296=(wd a (t+1)*4294967296+v.toNat)/2^s%4294967296:=by
    rw[jz a t,jz a (t+1),iZ hv]
    generalize nat (a.drop (t+1+1))=r
    generalize wd a (t+1)=y
    generalize v.toNat=x
    generalize hP:2^s=p at *
    generalize hQ:2^(32-s)=q at *
    have:x+4294967296*(y+4294967296*r)=p*(4294967296*(q*r))+(y*4294967296+x):=by
     have:p*(4294967296*(q*r))=4294967296*(4294967296*r):=by
      rw[Nat.mul_left_comm p 4294967296,←Nat.mul_assoc p q r,e2]
     omega
    rw[this,Nat.mul_add_div hp,Nat.mul_add_mod]
   have g3:=Nat.mod_mul (a:=4294967296^t) (b:=4294967296) (x:=nat a/2^s)
   rw[Nat.pow_succ,g3,g1,g2]
 exact ll.e0 a (s:Int) (by omega) (loop _ 0 _ rfl (by omega) (by simp) (by simp[nat,Nat.mod_one]))
theorem sJ{α:Type}(A U C:List α)(t:Nat)(x:α)(ht:t<U.length):(A++(U++C)).set (A.length+t) x=A++(U.set t x++C):=by
 rw[List.set_append_right _ _ (by omega),show A.length+t-A.length=t from by omega,List.set_append_left _ _ ht]
theorem cM{α:Type}(A U C:List α)(t:Nat)(x:α)(h:U[t]? = some x):(A++(U++C))[A.length+t]? = some x:=by
 have ht:=(List.getElem?_eq_some_iff.1 h).1
 rw[List.getElem?_append_right (by omega),show A.length+t-A.length=t from by omega,List.getElem?_append_left ht]
 exact h
abbrev Jc(A U C:Words):SC := .pure (((A++(U++C):List UInt32)).map af).flatten
theorem remove(A U C v:Words)(n off len:Nat)(ho:off=A.length)(hlen:len=U.length)(hU:U.length≤2199023255553)(hn:n<4294967296)(hb:n*nat v<4294967296^U.length)(xA:v.length≤U.length) :
  ∃(U':Words) (bo:Bool),U'.length=U.length∧((bo=false→nat U'+n*nat v=nat U)∧(bo=true→nat U'+n*nat v=nat U+4294967296^U.length)) ∧
   av bp 150 [.row 100000 off len 1,.pv (aa v),.pv (vU n)] [(100000,Jc A U C)] (.pv (vB bo)) [(100000,Jc A U' C)]:=by
 subst ho;subst hlen
 have loop:∀(j t carry borrow:Nat) (U0:Words),U.length-t=j→t≤U.length→U0.length=U.length→borrow≤1→carry<4294967296→4294967296^t*carry≤n*nat (v.take t)→(∀q,t≤q→U0[q]? = U[q]?) →
   nat (U0.take t)+n*nat (v.take t)=nat (U.take t)+4294967296^t*(carry+borrow) →
   ∃(U':Words) (bo:Bool),U'.length=U.length∧((bo=false→nat U'+n*nat v=nat U)∧(bo=true→nat U'+n*nat v=nat U+4294967296^U.length)) ∧
    ju.au A.length U.length v n carry borrow t (A++(U0++C)) [(100000,Jc A U C)] (.pv (vB bo)) [(100000,Jc A U' C)]:=by
  intro j
  induction j with
  |zero =>
   intro t carry borrow U0 hj ht hl P1 L8 jb _ hinv
   have AK:t=U.length:=by omega
   subst AK
   rw[bc (l:=v) xA] at hinv jb
   rw[bc (by omega),bc (l:=U) (by omega)] at hinv
   have PY:carry=0:=by
    refine Nat.eq_zero_of_not_pos fun hp => ?_
    have:=Nat.mul_le_mul_left (4294967296^U.length) hp
    omega
   subst PY
   refine⟨U0,decide ((borrow:Int)=1),hl,?_,?_⟩
   ·by_cases h1:borrow=1
    ·subst h1
     exact⟨fun h=>by simp at h,fun _=>by rw[hinv];simp⟩
    ·have h0:borrow=0:=by omega
     subst h0
     exact⟨fun _=>by rw[hinv];simp,fun h=>by simp at h⟩
   ·have:=ju.ew A.length U.length v n 0 borrow U.length (A++(U0++C)) (sin:=[(100000,Jc A U C)]) rfl rfl (by omega)
    have e:((borrow:Int)==1)=decide ((borrow:Int)=1):=by
     by_cases h1:borrow=1
     ·subst h1;rfl
     ·have h0:borrow=0:=by omega
      subst h0;rfl
    rw[e] at this;exact this
  |succ j ih =>
   intro t carry borrow U0 hj ht hl P1 L8 jb gE hinv
   obtain⟨x,hx⟩:∃x,U[t]? = some x:=⟨_,List.getElem?_eq_getElem (by omega)⟩
   have G1:U0[t]? = some x:=by rw[gE t (Nat.le_refl t)];exact hx
   have h1:=mF v t
   have h2:=iD x
   have h3:=vl hn h1
   have e:(2:Nat)^min 32 64=4294967296:=by decide
   generalize hp:n*wd v t=p at *
   obtain⟨lo,H6⟩:=gK ((carry+p)%4294967296) (by omega)
   have hz:∃(d d1 y nb:Nat),((x.toNat:Nat)-(lo.toNat:Nat):Int)%18446744073709551616=(d:Int)∧((d:Nat)-(borrow:Nat):Int)%18446744073709551616=(d1:Int)∧d1%4294967296=y∧d1/2^min 63 64=nb∧nb≤1∧y<4294967296∧y+lo.toNat+borrow=x.toNat+4294967296*nb:=by
    have NU:=iD lo
    refine⟨(((x.toNat:Nat)-(lo.toNat:Nat):Int)%18446744073709551616).toNat,((((x.toNat:Nat)-(lo.toNat:Nat):Int)%18446744073709551616-borrow)%18446744073709551616).toNat,_,_,by omega,by omega,rfl,rfl,?_⟩
    have e:(2:Nat)^min 63 64=9223372036854775808:=by decide
    rw[e]
    generalize lo.toNat=q at *
    generalize x.toNat=r at *
    by_cases LR:q+borrow≤r
    ·have e1:(((r:Int)-(q:Int))%18446744073709551616-borrow)%18446744073709551616=(r:Int)-q-borrow:=by omega
     rw[e1];omega
    ·have e1:(((r:Int)-(q:Int))%18446744073709551616-borrow)%18446744073709551616=(r:Int)-q-borrow+18446744073709551616:=by omega
     rw[e1];omega
   obtain⟨d,d1,y,nb,g1,g2,g3,g4,g5,g6,g7⟩:=hz
   obtain⟨w,hw⟩:=gK y g6
   have EI:=sJ A U0 C t w (by omega)
   have hmul:n*nat (v.take (t+1))=n*nat (v.take t)+4294967296^t*p:=by
    rw[dP v t,Nat.mul_add,←hp,Nat.mul_left_comm]
   have En:=Nat.div_add_mod (carry+p) 4294967296
   have hA:4294967296^t*carry+4294967296^t*p=4294967296^t*(4294967296*((carry+p)/4294967296))+4294967296^t*lo.toNat:=by
    rw[H6,←Nat.mul_add,←Nat.mul_add,En]
   have hB:4294967296^t*y+4294967296^t*lo.toNat+4294967296^t*borrow=4294967296^t*x.toNat+4294967296^t*(4294967296*nb):=by
    rw[←Nat.mul_add,←Nat.mul_add,←Nat.mul_add,g7]
   obtain⟨U',bo,q1,q2,q3⟩:=ih (t+1) ((carry+p)/4294967296) nb (U0.set t w) (by omega) (by omega) (by simpa using hl) g5 (by omega)
    (by rw[hmul,Nat.pow_succ,Nat.mul_assoc];omega)
    (fun q hq=>by rw[List.getElem?_set_ne (by omega)];exact gE q (by omega))
    (by
     rw[gf (by omega),hw,hmul,bV hx,Nat.pow_succ,Nat.mul_assoc,Nat.mul_add 4294967296,Nat.mul_add (4294967296^t)]
     rw[Nat.mul_add (4294967296^t) carry borrow] at hinv
     omega)
   refine⟨U',bo,q1,q2,?_⟩
   refine ju.eo A.length U.length v n carry borrow t _ (wd v t) p (carry+p) x lo d d1 w nb ((carry+p)/4294967296) rfl (by omega) (word v t) (by rw[hp];omega) (by omega) (cM A U0 C t x G1) H6.symm g1 g2 (by omega) (by simp;omega) g4 (by rw[e]) (by omega) ?_
   rw[EI];exact q3
 obtain⟨U',bo,h1,h2,h3⟩:=loop _ 0 0 0 U rfl (by omega) rfl (by omega) (by omega) (by simp) (fun _ _=>rfl) (by simp[nat])
 exact⟨U',bo,h1,h2,ju.e0 (A++(U++C)) A.length U.length v n h3⟩
theorem back(A U C v:Words)(off len:Nat)(ho:off=A.length)(hlen:len=U.length)(hU:U.length≤2199023255553)(xA:v.length≤U.length) :
  ∃(U':Words) (ca:Nat),U'.length=U.length∧ca≤1∧nat U'+4294967296^U.length*ca=nat U+nat v ∧
   av bp 151 [.row 100000 off len 1,.pv (aa v)] [(100000,Jc A U C)] (.pv (.bx [])) [(100000,Jc A U' C)]:=by
 subst ho;subst hlen
 have loop:∀(j t carry:Nat) (U0:Words),U.length-t=j→t≤U.length→U0.length=U.length→carry≤1→(∀q,t≤q→U0[q]? = U[q]?) →
   nat (U0.take t)+4294967296^t*carry=nat (U.take t)+nat (v.take t) →
   ∃(U':Words) (ca:Nat),U'.length=U.length∧ca≤1∧nat U'+4294967296^U.length*ca=nat U+nat v ∧
    lk.au A.length U.length v carry t (A++(U0++C)) [(100000,Jc A U C)] (.pv (.bx [])) [(100000,Jc A U' C)]:=by
  intro j
  induction j with
  |zero =>
   intro t carry U0 hj ht hl L8 _ hinv
   have AK:t=U.length:=by omega
   subst AK
   rw[bc (l:=v) xA] at hinv
   rw[bc (by omega),bc (l:=U) (by omega)] at hinv
   exact⟨U0,carry,hl,L8,hinv,lk.ew A.length U.length v carry U.length (A++(U0++C)) (sin:=[(100000,Jc A U C)]) rfl rfl (by omega)⟩
  |succ j ih =>
   intro t carry U0 hj ht hl L8 gE hinv
   obtain⟨x,hx⟩:∃x,U[t]? = some x:=⟨_,List.getElem?_eq_getElem (by omega)⟩
   have G1:U0[t]? = some x:=by rw[gE t (Nat.le_refl t)];exact hx
   have h1:=mF v t
   have h2:=iD x
   have e:(2:Nat)^min 32 64=4294967296:=by decide
   obtain⟨w,hw⟩:=gK ((carry+(x.toNat+wd v t))%4294967296) (by omega)
   have En:=Nat.div_add_mod (carry+(x.toNat+wd v t)) 4294967296
   have hA:4294967296^t*carry+4294967296^t*x.toNat+4294967296^t*wd v t=4294967296^t*(4294967296*((carry+(x.toNat+wd v t))/4294967296))+4294967296^t*w.toNat:=by
    rw[hw,←Nat.mul_add,←Nat.mul_add,←Nat.mul_add,En];congr 1;omega
   obtain⟨U',ca,q1,q2,q3,q4⟩:=ih (t+1) ((carry+(x.toNat+wd v t))/4294967296) (U0.set t w) (by omega) (by omega) (by simpa using hl) (by omega)
    (fun q hq=>by rw[List.getElem?_set_ne (by omega)];exact gE q (by omega))
    (by rw[gf (by omega),dP v t,bV hx,Nat.pow_succ,Nat.mul_assoc];omega)
   refine⟨U',ca,q1,q2,q3,?_⟩
   refine lk.eo A.length U.length v carry t _ x (wd v t) (x.toNat+wd v t) (carry+(x.toNat+wd v t)) w _ rfl (by omega) (cM A U0 C t x G1) (word v t) (by omega) (by omega) hw.symm (by simp;omega) (by rw[e]) (by omega) ?_
   rw[sJ A U0 C t w (by omega)];exact q4
 obtain⟨U',ca,h1,h2,h3,h4⟩:=loop _ 0 0 U rfl (by omega) rfl (by omega) (fun _ _=>rfl) (by simp[nat])
 exact⟨U',ca,h1,h2,h3,lk.e0 (A++(U++C)) A.length U.length v h4⟩
end fB
end Go.Proofs.YtfjfekodeplcoaaGreat.Sym
