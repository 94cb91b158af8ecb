/- Lemmas for the statements of this seat. -/
import Derived.Test.YtnjhplhbmapclaaGreatDoorWObs
import Derived.Deep.Slices
import Derived.WideKeyArgs
import Derived.RowKit3
import Derived.WalkKit
import Derived.ProofKit
import Derived.OpenShut
import Derived.SizedLaws
import Derived.Test.YtnjhplhbmapclaaGreatDoorT0
import Derived.Test.YtnjhplhbmapclaaGreatDoorChecked
import Derived.Shelf.Strings.BuilderX
import Derived.Shelf.Lays
import Derived.KernelRfl
import Derived.Shelf.Strconv.Itoa3
import Derived.Shelf.Strings.OnBuilder
import Derived.Test.YtnjhplhbmapclaaGreatDoorP0
namespace Go.Proofs.YtnjhplhbmapclaaGreatDoor.Sym
open Go Go.RowKit Go.ChangeShapes Go.WideShapes
set_option linter.unusedVariables false
abbrev Old(w:World)(b:Nat):Prop:=b<w.heap.size
def pT(P:Program)(t:TypeId){α:Type}(f:α→List PV)(Q:α→Prop):Prop :=
 ∀{H:Type} (enc:TypeId×Value→H) (w:World) (base:Nat) (spare:Nat→Bool) (held:Bool) (fuel:Nat) (cs:List Value) (x:DataW H×List MemPlace),
  DataW.trod enc P w base spare held fuel t cs=some x→(∀n∈x.1.weights P t,n≤reachBytes)→∃a,aV (Old w) w (f a) cs∧Q a
theorem np{I:Nat→Prop}{w:World}{a b:List PV}{us vs:List Value}(h:aV I w a us)(k:aV I w b vs):aV I w (a++b) (us++vs):=by
 refine⟨by rw[List.length_append,List.length_append,h.1,k.1],fun j c u hc hu => ?_⟩
 by_cases hj:j<a.length
 ·rw[List.getElem?_append_left hj] at hc
  rw[List.getElem?_append_left (by rw[←h.1];exact hj)] at hu
  exact h.2 j c u hc hu
 ·rw[List.getElem?_append_right (by omega)] at hc
  rw[List.getElem?_append_right (by rw[←h.1];omega)] at hu
  rw[h.1] at hc
  exact k.2 _ c u hc hu
theorem ja{I:Nat→Prop}{w:World}{p:PV}{v:Value}(h1:p.one=true)(h:Rd I w p v):aV I w [p] [v]:=by
 refine⟨rfl,fun j c u hc hu => ?_⟩
 cases j with
 |zero=>simp at hc hu;subst hc hu;exact⟨h1,h⟩
 |succ j=>simp at hc
theorem BJ{P:Program}{t:TypeId}{k:IntKind}(ht:P.underlying t=some (.int k)):pT P t (fun n:Int=>[.int k n]) (fun n=>(Lit.int k n).wf=true):=by
 intro H enc w base spare held fuel cs x h _
 obtain⟨n,rfl,_,hw⟩:=DataW.trod_int ht h
 exact⟨n,ja rfl (.int _ _),hw⟩
theorem zT{P:Program}{t:TypeId}(ht:P.underlying t=some .bool):pT P t (fun b:Bool=>[.bool b]) (fun _=>True):=by
 intro H enc w base spare held fuel cs x h _
 obtain⟨b,rfl,_⟩:=DataW.trod_bool ht h
 exact⟨b,ja rfl (.bool _),trivial⟩
theorem Dt{w:World}{a:Addr}{v:Value}(h:w.cell? a=some v):a.spot=none∧a.block<w.heap.size:=by
 unfold World.cell? at h
 split at h
 ·rename_i c q r hc
  refine⟨?_,(Array.getElem?_eq_some_iff.1 hc).1⟩
  cases hs:a.spot with
  |none=>rfl
  |some _=>rw[hs] at h;simp at h
 ·cases h
theorem x8(a:Addr):a.add 0=a:=rfl
theorem vu(b o i:Nat):(⟨b,o,none⟩:Addr).add i=⟨b,o+i,none⟩:=by
 unfold Addr.add
 split
 ·rename_i h;subst h;rfl
 ·rfl
theorem rJ{H:Type}{P:Program}{e:TypeId} : ∀{l:List (DataW H)} {d:DataW H} {n:Nat},d∈l→n∈d.weights P e→n∈DataW.weightsAll P e l
 |a::r,d,n,hd,hn=>by
  simp only[DataW.weightsAll,List.mem_append]
  rcases List.mem_cons.1 hd with h|h
  ·subst h;exact Or.inl hn
  ·exact Or.inr (rJ h hn)
theorem rK{P:Program}{t e:TypeId}{α:Type}{f:α→List PV}{Q:α→Prop}{s sb:Nat}(ht:P.underlying t=some (.slice e))(hs:P.cellsOf e=s)(Cb:0<s)(OF:P.bytesOf e=sb)(hf:∀a,(f a).length=s)(ho:pT P e f Q) :
  pT P t (fun l:List α=>[.list (l.map f)]) (fun l=>l.length*sb≤reachBytes∧∀a∈l,Q a):=by
 intro H enc w base spare held fuel cs x h AR
 rcases Deep.open_slice ht h with ⟨rfl,_⟩|⟨a,len,cap,m,n,D,Pl,rfl,hb,hl,hm,OG,F6,hx⟩
 ·exact⟨[],ja rfl (.nil _ _),by simp,by simp⟩
 rw[hs] at hx
 have Pm:len≤m:=by rw[OG];split<;>omega
 have uP:∀i,i<len→∃(y:α×List Value),w.cells? base (a.add (i*s)) s=some y.2∧aV (Old w) w (f y.1) y.2∧Q y.1:=by
  intro i hi
  obtain⟨JV,h1,h2⟩:=hx i (by omega)
  obtain⟨y,h3,h4⟩:=ho enc w base spare held n JV _ h2 (fun q hq=>AR q (by
   rw[F6]
   simp only[DataW.weights,ht,List.mem_cons,List.mem_append]
   exact Or.inr (Or.inl (rJ (List.mem_map.2 ⟨i,List.mem_range.2 hi,rfl⟩) hq))))
  exact⟨(y,JV),h1,h3,h4⟩
 by_cases h0:len=0
 ·subst h0
  exact⟨[],ja rfl (.nil _ _),by simp,by simp⟩
 have fP:Nonempty (α×List Value):=⟨(uP 0 (by omega)).choose⟩
 have:Inhabited (α×List Value):=Classical.inhabited_of_nonempty fP
 obtain⟨Y,hY⟩:=Deep.choose_lt uP
 obtain⟨c0,_⟩:=hY 0 (by omega)
 obtain⟨_,Pn,OH⟩:=World.cells?_some c0
 have cg:=OH 0 Cb
 obtain⟨v0,OI⟩:∃v,(Y 0).2[0]? = some v:=⟨_,List.getElem?_eq_getElem (by omega)⟩
 rw[OI] at cg
 rw[Nat.zero_mul,x8,x8] at cg
 obtain⟨Bm,Du⟩:=Dt cg
 obtain⟨b,o,sp⟩:=a
 simp only at Bm Du
 subst Bm
 have Dw:∀i j:Nat,i<len→j<s→w.cell? ⟨b,o+(i*s+j),none⟩=(Y i).2[j]? := by
  intro i j hi hj
  obtain⟨c1,_⟩:=hY i hi
  obtain⟨_,_,g⟩:=World.cells?_some c1
  have:=g j hj
  rw[vu,vu,Nat.add_assoc] at this
  exact this
 refine⟨(List.range len).map (fun i=>(Y i).1),ja rfl ?_,?_,?_⟩
 ·have e:len=(((List.range len).map (fun i=>(Y i).1)).map f).length:=by simp
  have qC:∀(i:Nat) row,(((List.range len).map (fun i=>(Y i).1)).map f)[i]? = some row→i<len∧row=f (Y i).1:=by
   intro i row hr
   have hi:i<len:=by have:=(List.getElem?_eq_some_iff.1 hr).1;rw[←e] at this;exact this
   refine⟨hi,?_⟩
   simp[List.getElem?_map,List.getElem?_range hi] at hr
   exact hr.symm
  have key:Rd (Old w) w (.list (((List.range len).map (fun i=>(Y i).1)).map f)) (.slice (some ⟨b,o,none⟩) (((List.range len).map (fun i=>(Y i).1)).map f).length cap):=by
   refine Rd.list _ b o cap s (fun i j=>((Y i).2[j]?).getD .nilIface) (by rw[←e];exact hl) Du ?_ ?_ ?_
   ·intro i row hr
    obtain⟨_,rfl⟩:=qC i row hr
    exact hf _
   ·intro i j row x hr E4
    obtain⟨hi,rfl⟩:=qC i row hr
    obtain⟨c1,r1,_⟩:=hY i hi
    have hj:j<s:=by rw[←hf (Y i).1];exact(List.getElem?_eq_some_iff.1 E4).1
    have hlen:=r1.1
    obtain⟨u,hu⟩:∃u,(Y i).2[j]? = some u:=⟨_,List.getElem?_eq_getElem (by rw[←hlen,hf];exact hj)⟩
    refine⟨(r1.2 j x u E4 hu).1,?_⟩
    rw[Dw i j hi hj,hu];rfl
   ·intro i j row x hr E4
    obtain⟨hi,rfl⟩:=qC i row hr
    obtain⟨c1,r1,_⟩:=hY i hi
    have hj:j<s:=by rw[←hf (Y i).1];exact(List.getElem?_eq_some_iff.1 E4).1
    have hlen:=r1.1
    obtain⟨u,hu⟩:∃u,(Y i).2[j]? = some u:=⟨_,List.getElem?_eq_getElem (by rw[←hlen,hf];exact hj)⟩
    rw[hu]
    exact(r1.2 j x u E4 hu).2
  rw[←e] at key
  exact key
 ·have:=AR ((len+(m-len))*sb) (by
   rw[F6]
   simp only[DataW.weights,ht,OF,List.length_map,List.length_range,List.mem_cons,true_or])
  rw[List.length_map,List.length_range]
  exact Nat.le_trans (Nat.mul_le_mul_right _ (by omega)) this
 ·intro y hy
  obtain⟨i,hi,rfl⟩:=List.mem_map.1 hy
  exact(hY i (List.mem_range.1 hi)).2.2
theorem wL{P:Program}{t:TypeId}{fs:Array Field}(ht:P.underlying t=some (.struct fs)){H:Type}{enc:TypeId×Value→H}{w:World}{base:Nat}{spare:Nat→Bool}{held:Bool}{fuel:Nat}{cs:List Value}{x:DataW H×List MemPlace}
  (h:DataW.trod enc P w base spare held fuel t cs=some x):cs.length=P.cellsOf t:=(DataW.trod_struct ht h).choose_spec.choose_spec.2.2.1
theorem nq{P:Program}{t u:TypeId}{fs:Array Field}{α:Type}{f:α→List PV}{Q:α→Prop}(ht:P.underlying t=some (.struct fs)){H:Type}{enc:TypeId×Value→H}{w:World}{base:Nat}{spare:Nat→Bool}{held:Bool}{fuel:Nat}{cs:List Value}{x:DataW H×List MemPlace}
  (h:DataW.trod enc P w base spare held fuel t cs=some x) (AR:∀n∈x.1.weights P t,n≤reachBytes) (i off s:Nat) (hi:(fs[i]?).map (fun f=>(f.type,f.offset))=some (u,off)) (hs:P.cellsOf u=s) (ho:pT P u f Q):∃a,aV (Old w) w (f a) ((cs.drop off).take s)∧Q a:=by
 obtain⟨xs,n,_,hx,hl,hlen,hf⟩:=DataW.trod_struct ht h
 cases hfi:fs[i]? with
 |none=>rw[hfi] at hi;cases hi
 |some fd =>
  rw[hfi] at hi
  injection hi with hi
  injection hi with e1 e2
  have h1:=hf i fd hfi
  have h2:i<xs.length:=by rw[hlen];exact(Array.getElem?_eq_some_iff.1 hfi).1
  rw[List.getElem?_eq_getElem h2,e1,e2,hs] at h1
  refine ho enc w base spare held n _ _ h1 (fun q hq=>AR q ?_)
  rw[hx]
  simp only[DataW.weights,ht]
  refine DataW.weights_mem_each (j:=i) (t:=u) (d:=xs[i].1) ?_ ?_ q hq
  ·rw[List.getElem?_map,Array.getElem?_toList,hfi]
   exact congrArg some e1
  ·rw[List.getElem?_map,List.getElem?_eq_getElem h2];rfl
def zU:Option TypeDesc→Option (List (TypeId×Nat))
 |some (.struct fs)=>some (fs.toList.map fun f=>(f.type,f.offset))
 |_=>none
theorem BK{u:Option TypeDesc}{l:List (TypeId×Nat)}(h:zU u=some l):∃fs,u=some (.struct fs)∧∀i:Nat,(fs[i]?).map (fun f=>(f.type,f.offset))=l[i]? := by
 unfold zU at h
 split at h
 ·rename_i fs
  injection h with h
  refine⟨fs,rfl,fun i => ?_⟩
  rw[←h,List.getElem?_map,Array.getElem?_toList]
 ·cases h
theorem zV{w w':World}{may:MemPlace→Prop}(h:gF (fun _=>False) w w'):w.keptBut w' may:=by
 refine⟨h.os,h.output,fun i hi => ?_⟩
 have e:=h.block i hi (fun h=>h)
 rw[e]
 cases w.heap[i]? with
 |none=>rfl
 |some o=>cases o<;>simp
theorem wM{w w':World}(h:gF (fun _=>False) w w'){a:Addr}(ha:a.block<w.heap.size):w'.frozen? a=w.frozen? a:=by
 have e:=h.block _ ha (fun h=>h)
 unfold World.frozen?
 rw[e]
theorem zW{w w':World}(h:gF (fun _=>False) w w'){p:MemPlace}(hp:p.block<w.heap.size):w.sameAt w' p:=by
 cases p with
 |cell b off =>
  have e:=h.block b hp (fun h=>h)
  show w'.cell? _=w.cell? _
  simp[World.cell?,e]
 |map b=>exact h.block b hp (fun h=>h)
section
variable {H:Type} {enc:TypeId×Value→H} {P:Program}
theorem BL{f:Func}{s:ChangeSpec}{apart fresh handsOn again:Bool}{W W':World}{args:Array Value}{ds gs:List (DataW H)}{before:List MemPlace}{tb:TypeId}
  (hW:DataW.Whole enc P f.params.toList s.vars apart W args.toList ds gs before) (hk:gF (fun _=>False) W W')
  (Gh:s.vars=[]) (LL:f.resultTypes = #[tb]) (MY:P.underlying tb=some .bool)
  (jV:(s.fn H (ds++gs)).results=[.lit (.bool true)]) (fM:(s.fn H (ds++gs)).args=ds) (OJ:(s.fn H (ds++gs)).vars=[])
  (hl:laidOutB P=true) (hr:∀t∈f.params.toList,P.readableRec t=true∧t<P.types.size):s.post enc P f apart fresh handsOn again W args (.bool true) W':=by
 have cS:=hW.lt
 obtain⟨p,q,hA,hV,Gd,hz,hn⟩:=hW
 have hW:DataW.Whole enc P f.params.toList s.vars apart W args.toList ds gs before:=⟨p,q,hA,hV,Gd,hz,hn⟩
 rw[Gh] at hV
 obtain⟨zX,kX⟩:=trodVars_none hV
 subst kX
 have Kd:before=p:=by rw[Gd];simp
 have HJ:∀(sp:Nat→Bool),(∀x∈before,sp x.block=true)→DataW.TrodAll enc P W' 0 sp true f.params.toList args.toList ds p:=by
  intro sp Bm
  have key:∀{ts:List TypeId} {vs:List Value} {es:List (DataW H)} {ps:List MemPlace},(∀t∈ts,P.readableRec t=true∧t<P.types.size)→(∀x∈ps,x∈before)→DataW.TrodAll enc P W 0 (fun _=>true) true ts vs es ps→DataW.TrodAll enc P W' 0 sp true ts vs es ps:=by
   intro ts
   induction ts with
   |nil =>
    intro vs es ps _ _ h
    obtain⟨rfl,rfl,rfl⟩:=trodAll_nil h
    exact trodAll_mk0
   |cons t ts ih =>
    intro vs es ps HK jG h
    obtain⟨v,MA,d,Po,a,b,rfl,rfl,rfl,h1,h2⟩:=trodAll_cons h
    refine⟨a,b,WideElems.Trod_stays hl (HK t (List.mem_cons_self ..)).1 (HK t (List.mem_cons_self ..)).2 h1 (fun x hx=>zW hk (cS x (jG x (List.mem_append_left _ hx)))) (fun x hx=>Bm x (jG x (List.mem_append_left _ hx))),ih (fun u hu=>HK u (List.mem_cons_of_mem _ hu)) (fun x hx=>jG x (List.mem_append_right _ hx)) h2,rfl⟩
  exact key hr (fun x hx=>by rw[Kd];exact hx) hA
 have hold:∀x∈before,(fun b=>decide (b<W.heap.size)) x.block=true:=fun x hx=>by simpa using cS x hx
 have AG:∀(b:Nat) (sp:Nat→Bool) (hd:Bool),DataW.TrodAll enc P W' b sp hd f.resultTypes.toList ((Value.bool true).resultList f.resultTypes.size) (s.fn H (ds++gs)).results []:=by
  intro b sp hd
  rw[LL,jV]
  exact trodAll_mk1 (shut_bool MY true)
 have xd:∀sp:Nat→Bool,DataW.TrodVars enc P W' sp s.vars (s.fn H (ds++gs)).vars []:=by
  intro sp;rw[Gh,OJ];rfl
 have Dx:∀(sp:Nat→Bool),(∀x∈before,sp x.block=true)→DataW.TrodAll enc P W' 0 sp true f.params.toList args.toList (s.fn H (ds++gs)).args p:=by
  intro sp Bm
  rw[fM];exact HJ sp Bm
 refine⟨ds,gs,before,[],p,[],hW,AG _ _ _,Dx _ hold,xd _,zV hk,fun _ => ?_⟩
 refine⟨ok_one LL rfl (okWide_bool_mk MY true),_,_,([]++p)++[],⟨[]++p,[],trodAll_append (Dx _ (fun _ _=>rfl)) (AG _ _ _),xd _,rfl,?_,?_⟩,?_⟩
 ·intro b off hp
  have MZ:MemPlace.cell b off∈before:=by rw[Kd];simpa using hp
  rw[wM hk (cS _ MZ)]
  exact hz b off MZ
 ·intro ha
  have:=hn ha
  rw[Kd] at this
  simpa using this
 ·intro x hx _
  rw[Kd]
  simpa using hx
end
end Go.Proofs.YtnjhplhbmapclaaGreatDoor.Sym
namespace Go.Proofs.YtnjhplhbmapclaaGreatDoor.Sym
open Go Go.RowKit Go.ChangeShapes Go.WideShapes
set_option linter.unusedVariables false
theorem Fj{n:Int}(h:(Lit.int .u32 n).wf=true):∃v:UInt32,(v.toNat:Int)=n:=by
 have h:(0≤n∧n≤4294967295):=by simpa[Lit.wf,IntKind.min,IntKind.max,IntKind.signed,IntKind.bits] using h
 refine⟨UInt32.ofNat n.toNat,?_⟩
 rw[show (UInt32.ofNat n.toNat).toNat=n.toNat from by simp;omega]
 omega
theorem zY:pT bh 43 ab (fun _=>True):=by
 intro H enc w base spare held fuel cs x h AR
 obtain⟨n,h1,h2⟩:=BJ (k := .u32) (show bh.underlying 43=some (.int .u32) by kernel_rfl) enc w base spare held fuel cs x h AR
 obtain⟨v,rfl⟩:=Fj h2
 exact⟨v,h1,trivial⟩
theorem rL:pT bh 39 (fun l:Words=>[aa l]) (fun l=>l.length*4≤reachBytes):=by
 intro H enc w base spare held fuel cs x h AR
 obtain⟨l,h1,h2,_⟩:=rK (s:=1) (show bh.underlying 39=some (.slice 43) by kernel_rfl) (by kernel_rfl) (by omega) (sb:=4) (by kernel_rfl) (fun _=>rfl) zY enc w base spare held fuel cs x h AR
 exact⟨l,h1,h2⟩
theorem HL{α:Type}(cs:List α)(a b c:Nat)(h:cs.length=a+b+c):cs=(cs.drop 0).take a++((cs.drop a).take b++(cs.drop (a+b)).take c):=by
 have e:(cs.drop (a+b)).take c=cs.drop (a+b):=List.take_of_length_le (by rw[List.length_drop];omega)
 have h1:(cs.drop a).take b++cs.drop (a+b)=cs.drop a:=by
  have:=List.take_append_drop b (cs.drop a)
  rwa[List.drop_drop] at this
 rw[e,h1,List.drop_zero,List.take_append_drop]
def Jt(a:ae):Prop:=a.num.length*4≤reachBytes∧a.den.length*4≤reachBytes
theorem zZ:pT bh 41 ae.cells Jt:=by
 intro H enc w base spare held fuel cs x h AR
 obtain⟨fs,hu,e⟩:=BK (show zU (bh.underlying 41)=some [(4,0),(39,1),(39,2)] by kernel_rfl)
 have hl:=wL hu h
 have hl:cs.length=1+1+1:=hl.trans (by kernel_rfl)
 obtain⟨b,r0,_⟩:=nq hu h AR 0 0 1 (e 0) (by kernel_rfl) (zT (show bh.underlying 4=some .bool by kernel_rfl))
 obtain⟨n,r1,q1⟩:=nq hu h AR 1 1 1 (e 1) (by kernel_rfl) rL
 obtain⟨d,r2,q2⟩:=nq hu h AR 2 2 1 (e 2) (by kernel_rfl) rL
 refine⟨⟨b,n,d⟩,?_,q1,q2⟩
 rw[HL cs 1 1 1 hl]
 exact np r0 (np r1 r2)
theorem z6:pT bh 23 (df ae.cells) (fun l=>∀a∈l,Jt a):=by
 intro H enc w base spare held fuel cs x h AR
 obtain⟨l,h1,_,h2⟩:=rK (s:=3) (show bh.underlying 23=some (.slice 41) by kernel_rfl) (by kernel_rfl) (by omega) (sb:=56) (by kernel_rfl) (fun _=>rfl) zZ enc w base spare held fuel cs x h AR
 exact⟨l,h1,h2⟩
end Go.Proofs.YtnjhplhbmapclaaGreatDoor.Sym
namespace Go.Proofs.YtnjhplhbmapclaaGreatDoor.Sym.Ey
open Go Go.Shelf Go.Proofs
set_option maxRecDepth 20000
def uR:Ren:=⟨fun n=>match n with|129=>130|156=>23|165=>52|166=>53|169=>54|171=>22|240=>83|241=>84|243=>51|246=>82|276=>112|277=>113|283=>108|284=>109|285=>110|286=>111|317=>129|318=>131|319=>132|320=>133|337=>136|338=>137|n=>n,
 fun n=>match n with|0=>0|2=>2|3=>3|4=>4|5=>5|9=>9|20=>20|31=>50|37=>83|46=>107|51=>43|53=>106|70=>82|72=>85|75=>27|76=>87|80=>89|127=>105|164=>127|171=>122|173=>125|212=>141|213=>142|232=>146|233=>147|n=>n,
 fun n=>match n with|17=>0|18=>2|19=>3|n=>n⟩
theorem AS:Lays.n156 Tryz.prog uR where
 mixed:=by kernel_rfl
 f156:=Tryz.func23.trans (congrArg some (by kernel_rfl))
 f165:=Tryz.func52.trans (congrArg some (by kernel_rfl))
 f166:=Tryz.func53.trans (congrArg some (by kernel_rfl))
 f169:=Tryz.func54.trans (congrArg some (by kernel_rfl))
 f240:=Tryz.func83.trans (congrArg some (by kernel_rfl))
 f241:=Tryz.func84.trans (congrArg some (by kernel_rfl))
 f276:=Tryz.func112.trans (congrArg some (by kernel_rfl))
 f277:=Tryz.func113.trans (congrArg some (by kernel_rfl))
 t0:=Tryz.underlying0
 a0:=Tryz.isAgg0
 z0:=Tryz.sizeOf0
 v0:=Tryz.zeroValue0
 t3:=Tryz.underlying3
 a3:=Tryz.isAgg3
 z3:=Tryz.sizeOf3
 v3:=Tryz.zeroValue3
 t4:=Tryz.underlying4
 a4:=Tryz.isAgg4
 z4:=Tryz.sizeOf4
 v4:=Tryz.zeroValue4
 t9:=Tryz.underlying9
 a9:=Tryz.isAgg9
 z9:=Tryz.sizeOf9
 v9:=Tryz.zeroValue9
 t20:=Tryz.underlying20
 a20:=Tryz.isAgg20
 z20:=Tryz.sizeOf20
 v20:=Tryz.zeroValue20
 t31:=Tryz.underlying50
 a31:=Tryz.isAgg50
 z31:=Tryz.sizeOf50
 v31:=Tryz.zeroValue50
 t37:=Tryz.underlying83
 a37:=Tryz.isAgg83
 z37:=Tryz.sizeOf83
 v37:=Tryz.zeroValue83
 t70:=Tryz.underlying82
 a70:=Tryz.isAgg82
 z70:=Tryz.sizeOf82
 v70:=Tryz.zeroValue82
 t72:=Tryz.underlying85
 a72:=Tryz.isAgg85
 z72:=Tryz.sizeOf85
 v72:=Tryz.zeroValue85
 t75:=Tryz.underlying27
 a75:=Tryz.isAgg27
 z75:=Tryz.sizeOf27
 v75:=Tryz.zeroValue27
 t76:=Tryz.underlying87
 a76:=Tryz.isAgg87
 z76:=Tryz.sizeOf87
 v76:=Tryz.zeroValue87
 t127:=Tryz.underlying105
 a127:=Tryz.isAgg105
 z127:=Tryz.sizeOf105
 v127:=Tryz.zeroValue105
 t164:=Tryz.underlying127
 a164:=Tryz.isAgg127
 z164:=Tryz.sizeOf127
 v164:=Tryz.zeroValue127
theorem AT:Lays.n171 Tryz.prog uR where
 mixed:=by kernel_rfl
 f129:=Tryz.func130.trans (congrArg some (by kernel_rfl))
 f171:=Tryz.func22.trans (congrArg some (by kernel_rfl))
 f243:=Tryz.func51.trans (congrArg some (by kernel_rfl))
 f246:=Tryz.func82.trans (congrArg some (by kernel_rfl))
 f283:=Tryz.func108.trans (congrArg some (by kernel_rfl))
 f284:=Tryz.func109.trans (congrArg some (by kernel_rfl))
 f285:=Tryz.func110.trans (congrArg some (by kernel_rfl))
 f286:=Tryz.func111.trans (congrArg some (by kernel_rfl))
 f317:=Tryz.func129.trans (congrArg some (by kernel_rfl))
 f318:=Tryz.func131.trans (congrArg some (by kernel_rfl))
 f319:=Tryz.func132.trans (congrArg some (by kernel_rfl))
 f320:=Tryz.func133.trans (congrArg some (by kernel_rfl))
 f337:=Tryz.func136.trans (congrArg some (by kernel_rfl))
 f338:=Tryz.func137.trans (congrArg some (by kernel_rfl))
 t0:=Tryz.underlying0
 a0:=Tryz.isAgg0
 z0:=Tryz.sizeOf0
 v0:=Tryz.zeroValue0
 t2:=Tryz.underlying2
 a2:=Tryz.isAgg2
 z2:=Tryz.sizeOf2
 v2:=Tryz.zeroValue2
 t3:=Tryz.underlying3
 a3:=Tryz.isAgg3
 z3:=Tryz.sizeOf3
 v3:=Tryz.zeroValue3
 t4:=Tryz.underlying4
 a4:=Tryz.isAgg4
 z4:=Tryz.sizeOf4
 v4:=Tryz.zeroValue4
 t5:=Tryz.underlying5
 a5:=Tryz.isAgg5
 z5:=Tryz.sizeOf5
 v5:=Tryz.zeroValue5
 t9:=Tryz.underlying9
 a9:=Tryz.isAgg9
 z9:=Tryz.sizeOf9
 v9:=Tryz.zeroValue9
 t20:=Tryz.underlying20
 a20:=Tryz.isAgg20
 z20:=Tryz.sizeOf20
 v20:=Tryz.zeroValue20
 t37:=Tryz.underlying83
 a37:=Tryz.isAgg83
 z37:=Tryz.sizeOf83
 v37:=Tryz.zeroValue83
 t46:=Tryz.underlying107
 a46:=Tryz.isAgg107
 z46:=Tryz.sizeOf107
 v46:=Tryz.zeroValue107
 t51:=Tryz.underlying43
 a51:=Tryz.isAgg43
 z51:=Tryz.sizeOf43
 v51:=Tryz.zeroValue43
 t53:=Tryz.underlying106
 a53:=Tryz.isAgg106
 z53:=Tryz.sizeOf106
 v53:=Tryz.zeroValue106
 t171:=Tryz.underlying122
 a171:=Tryz.isAgg122
 z171:=Tryz.sizeOf122
 v171:=Tryz.zeroValue122
 t173:=Tryz.underlying125
 a173:=Tryz.isAgg125
 z173:=Tryz.sizeOf125
 v173:=Tryz.zeroValue125
 t212:=Tryz.underlying141
 a212:=Tryz.isAgg141
 z212:=Tryz.sizeOf141
 v212:=Tryz.zeroValue141
 t213:=Tryz.underlying142
 a213:=Tryz.isAgg142
 z213:=Tryz.sizeOf142
 t232:=Tryz.underlying146
 a232:=Tryz.isAgg146
 z232:=Tryz.sizeOf146
 v232:=Tryz.zeroValue146
 t233:=Tryz.underlying147
 a233:=Tryz.isAgg147
 z233:=Tryz.sizeOf147
 v233:=Tryz.zeroValue147
 g17:=by kernel_rfl
 g18:=by kernel_rfl
 g19:=by kernel_rfl
theorem extra:Builder.Extra Tryz.prog uR where
 sizeBuilder:=by kernel_rfl
 liesBuilder:=by kernel_rfl
 t5:=Tryz.underlying5
 a5:=Tryz.isAgg5
 z5:=Tryz.sizeOf5
 v5:=Tryz.zeroValue5
 infoByte:=by kernel_rfl
 cellsByte:=by kernel_rfl
 sizeByte:=by kernel_rfl
 neB5:=by decide
end Go.Proofs.YtnjhplhbmapclaaGreatDoor.Sym.Ey
namespace Go.Proofs.YtnjhplhbmapclaaGreatDoor.Sym
open Go Go.RowKit
set_option linter.unusedVariables false
theorem fZ.mk' {P : Program} {f : FuncId} {fn : Func} (h : P.funcs[f]? = some fn) (hb : (fn.body.isSome && !(fn.name == "runtime.NumGoroutine")) = true) : fZ P f := by
  rw [Bool.and_eq_true, Bool.not_eq_true'] at hb
  exact ⟨fn, h, hb.1, hb.2⟩
theorem cb.x9{P:Program}{f:FuncId}{args:List PV}{r:PV}(hc:fZ P f)
  (h:∀(I:Nat→Prop) (w:World) (vs:Array Value),(∀b,I b→b<w.heap.size)→args.length=vs.size →
   (∀(j:Nat) p v,args[j]? = some p→vs[j]? = some v→Rd I w p v)→mM [] (fun _=>none) w →
   Calls P f vs w (fun e w'=>∃v,e = .returned v∧Rd (fun b=>I b∨fresh w w' b) w' r v∧Below w.heap.size w w')):cb P f args r:=by
 refine⟨hc,fun I w β vs hI _ hl hr hy=>(h I w vs hI (by simpa using hl) (fun j p v hp hv=>hr j (.pv p) v (by rw[List.getElem?_map,hp];rfl) hv) hy.nil).mono ?_⟩
 rintro e w' ⟨v,he,hv,hb⟩
 refine⟨v,β,he,fun _ _ _=>rfl,gF.xx ⟨hb,fun s=>by unfold Km at s;exact s.elim⟩,nE _ _ _,?_,fun x b hx=>absurd hx jH⟩
 exact Rd.mono hv (fun b hb=>hb.imp id (fun hf=>⟨Or.inl hf,(fun x hx=>absurd hx jH)⟩)) (fun _ _ _=>rfl)
theorem cb.AU{P:Program}{f:FuncId}{args:List PV}{r:PV}(hc:fZ P f)
  (h:∀(I:Nat→Prop) (w:World) (vs:Array Value),(∀b,I b→b<w.heap.size)→args.length=vs.size →
   (∀(j:Nat) p v,args[j]? = some p→vs[j]? = some v→Rd I w p v) →
   Calls P f vs w (fun e w'=>∃v,e = .returned v∧Rd (fun b=>I b∨fresh w w' b) w' r v∧Below w.heap.size w w')):cb P f args r :=
 cb.x9 hc (fun I w vs h1 h2 h3 _=>h I w vs h1 h2 h3)
theorem AV{I:Nat→Prop}{w:World}{k:IntKind}{n:Int}{v:Value}(h:Rd I w (.int k n) v):v = .int k n:=by cases h;rfl
theorem AW{I:Nat→Prop}{w:World}{s:ByteArray}{v:Value}(h:Rd I w (.str s) v):v = .string s:=by cases h;rfl
def dig(n:Nat):ByteArray:=⟨(Lib.decDigits n).toArray⟩
theorem ud(n:Nat)(h:n<100):Cp 22 [vI (n:Int)] (.str (dig n)):=by
 refine cb.AU (fZ.mk' Tryz.func22 (by kernel_rfl)) (fun I w vs hI hl hr => ?_)
 obtain⟨v,rfl⟩:∃v,vs = #[v]:=by
  match vs,hl with
  |⟨[v]⟩,_=>exact⟨v,rfl⟩
 have hv:=AV (hr 0 _ v rfl rfl)
 subst hv
 refine Calls.mono (Any.strconv_Itoa_small Ey.AT n h w) ?_
 rintro e w' ⟨he,rfl⟩
 exact⟨_,he,.str _,Below.refl _ _⟩
def dq(l:List ByteArray)(sep:ByteArray):ByteArray:=⟨(Lib.join (l.map (·.data.toList)) sep.data.toList).toArray⟩
theorem HM(l:List ByteArray)(sep:ByteArray)(hn:l.length≤140737488355328)(hlen:(Lib.join (l.map (·.data.toList)) sep.data.toList).length≤140737488355328) :
  Cp 23 [qm db l,.str sep] (.str (dq l sep)):=by
 refine cb.AU (fZ.mk' Tryz.func23 (by kernel_rfl)) (fun I w vs hI hl hr => ?_)
 obtain⟨v,u,rfl⟩:∃v u,vs = #[v,u]:=by
  match vs,hl with
  |⟨[v,u]⟩,_=>exact⟨v,u,rfl⟩
 have hu:=AW (hr 1 _ u rfl rfl)
 subst hu
 have hv:Rd I w (.list (l.map db)) v:=hr 0 _ v rfl rfl
 cases l with
 |nil =>
  have:∃a c,v = .slice a 0 c:=by
   generalize hx:(PV.list (([]:List ByteArray).map db))=x at hv
   cases hv with
   |nil a c=>exact⟨a,c,rfl⟩
   |list xs b o c s f hc hb hs ho h =>
    injection hx with hx
    subst hx
    exact⟨_,c,rfl⟩
   |_=>cases hx
  obtain⟨a,c,rfl⟩:=this
  refine Calls.mono (Any.strings_Join_none Ey.AS Ey.extra a c sep w) ?_
  rintro e w' ⟨he,rfl⟩
  exact⟨_,he,.str _,Below.refl _ _⟩
 |cons x0 r =>
  have:∃b o c,v = .slice (some ⟨b,o,none⟩) (x0::r).length c∧(x0::r).length≤c∧I b∧∀(j:Nat) x,(x0::r)[j]? = some x→w.cell? ⟨b,o+j,none⟩=some (.string x):=by
   generalize hx:(PV.list ((x0::r).map db))=x at hv
   cases hv with
   |list xs b o c s f hc hb hs ho h =>
    injection hx with hx
    subst hx
    have OK:s=1:=by
     have:=hs 0 _ rfl
     simpa[db] using this.symm
    subst OK
    refine⟨b,o,c,by rw[List.length_map],by simpa using hc,hb,fun j x hj => ?_⟩
    have qC:((x0::r).map db)[j]? = some (db x):=by rw[List.getElem?_map,hj];rfl
    have h1:=(ho j 0 _ (.str x) qC rfl).2
    have h2:=AW (h j 0 _ (.str x) qC rfl)
    rw[h2] at h1
    simpa using h1
   |_=>cases hx
  obtain⟨b,o,c,rfl,hc,hb,Dw⟩:=this
  refine Calls.mono (Any.strings_Join Ey.AS Ey.extra b o c (x0::r) sep w Dw (hI b hb) hn hc hlen) ?_
  rintro e w' ⟨he,hw⟩
  exact⟨_,he,.str _,hw⟩
end Go.Proofs.YtnjhplhbmapclaaGreatDoor.Sym
namespace Go.Proofs.YtnjhplhbmapclaaGreatDoor.Sym
def nat:Words→Nat
 |[]=>0
 |w::r=>w.toNat+4294967296*nat r
def ml:Nat→Nat→Words
 |0,_=>[]
 |f+1,n=>bif Nat.beq n 0 then [] else UInt32.ofNat n::ml f (n/4294967296)
def words(n:Nat):Words:=ml n n
theorem eM(w:UInt32):w.toNat<4294967296:=w.toNat_lt
theorem nL(n:Nat):(UInt32.ofNat n).toNat=n%4294967296:=by simp
theorem HN{a b:UInt32}(h:a.toNat=b.toNat):a=b:=UInt32.toNat_inj.1 h
theorem LM{n:Nat}(h:n<4294967296):(UInt32.ofNat n).toNat=n:=by rw[nL];exact Nat.mod_eq_of_lt h
theorem dX(n:Nat)(h:n<4294967296):∃w:UInt32,w.toNat=n:=⟨UInt32.ofNat n,LM h⟩
theorem oV : ∀ (f n : Nat), n ≤ f → nat (ml f n) = n
  | 0, n, h => by have : n = 0 := by omega
                  subst this; rfl
  | f + 1, n, h => by
    unfold ml
    by_cases h0 : n = 0
    · subst h0; rfl
    · have : Nat.beq n 0 = false := by
        cases hb : Nat.beq n 0 with
        | true => exact absurd (Nat.eq_of_beq_eq_true hb) h0
        | false => rfl
      rw [this]
      show (UInt32.ofNat n).toNat + 4294967296 * nat (ml f (n / 4294967296)) = n
      rw [oV f (n / 4294967296) (by omega), nL]
      omega
theorem au(n:Nat):nat (words n)=n:=oV n n (Nat.le_refl n)
def cn:Words→Bool
 |[]=>true
 |[w]=>w.toNat != 0
 |_::w::r=>cn (w::r)
theorem wN{w:UInt32}{r:Words}(h:cn (w::r)=true):cn r=true:=by
 cases r with
 |nil=>rfl
 |cons v r=>exact h
theorem k9:∀{l:Words},cn l=true→l≠[]→0<nat l
 |[],_,h=>absurd rfl h
 |[w],h,_=>by
  simp[cn] at h
  show 0<w.toNat+4294967296*0
  omega
 |w::v::r,h,_=>by
  have:=k9 (l:=v::r) h (by simp)
  show 0<w.toNat+4294967296*nat (v::r)
  omega
theorem Dy:∀{a b:Words},cn a=true→cn b=true→nat a=nat b→a=b
 |[],[],_,_,_=>rfl
 |[],w::r,_,hb,h=>by have:=k9 hb (by simp);have h0:nat []=0:=rfl;omega
 |w::r,[],ha,_,h=>by have:=k9 ha (by simp);have h0:nat []=0:=rfl;omega
 |w::r,v::s,ha,hb,h=>by
  have h:w.toNat+4294967296*nat r=v.toNat+4294967296*nat s:=h
  have h1:=eM w
  have h2:=eM v
  have h3:w.toNat=v.toNat:=by omega
  have h4:nat r=nat s:=by omega
  rw[HN h3,Dy (wN ha) (wN hb) h4]
theorem vv:∀(f n:Nat),n≤f→cn (ml f n)=true
 |0,n,_=>rfl
 |f+1,n,h=>by
  unfold ml
  by_cases h0:n=0
  ·subst h0;rfl
  ·have:Nat.beq n 0=false:=by
    cases hb:Nat.beq n 0 with
    |true=>exact absurd (Nat.eq_of_beq_eq_true hb) h0
    |false=>rfl
   rw[this]
   show cn (UInt32.ofNat n::ml f (n/4294967296))=true
   have ih:=vv f (n/4294967296) (by omega)
   have hn:=oV f (n/4294967296) (by omega)
   cases hr:ml f (n/4294967296) with
   |nil =>
    rw[hr] at hn
    have hn:0=n/4294967296:=hn
    show((UInt32.ofNat n).toNat != 0)=true
    rw[nL]
    have:n%4294967296≠0:=by omega
    simpa using this
   |cons v r=>rw[hr] at ih;exact ih
theorem dY(n:Nat):cn (words n)=true:=vv n n (Nat.le_refl n)
theorem nr{l:Words}{n:Nat}(hc:cn l=true)(h:nat l=n):words n=l:=Dy (dY n) hc (by rw[au,h])
theorem cI{l:Words}(hc:cn l=true):words (nat l)=l:=nr hc rfl
theorem cJ:words 0=[]:=rfl
theorem nM{n:Nat} : words n=[]↔n=0:=by
 constructor
 ·intro h;rw[←au n,h];rfl
 ·intro h;subst h;rfl
theorem bO{n:Nat} : (words n).length=0↔n=0:=by rw[List.length_eq_zero_iff,nM]
theorem cr:∀l:Words,nat l<4294967296^l.length
 |[]=>by simp[nat]
 |w::r=>by
  have h1:=cr r
  have h2:=eM w
  show w.toNat+4294967296*nat r<4294967296^(r.length+1)
  rw[Nat.pow_succ]
  omega
theorem iJ:∀a b:Words,nat (a++b)=nat a+4294967296^a.length*nat b
 |[],b=>by simp[nat]
 |w::r,b=>by
  show w.toNat+4294967296*nat (r++b)=w.toNat+4294967296*nat r+4294967296^(r.length+1)*nat b
  rw[iJ r b,Nat.pow_succ,Nat.mul_add,←Nat.mul_assoc,Nat.mul_comm 4294967296 (4294967296^r.length)]
  omega
theorem fI(l:Words)(k:Nat)(h:k≤l.length):nat l=nat (l.take k)+4294967296^k*nat (l.drop k):=by
 conv=>lhs;rw[←List.take_append_drop k l]
 rw[iJ,List.length_take,Nat.min_eq_left h]
theorem aZ{l:Words}{k:Nat}{v:UInt32}(h:l[k]? = some v):nat (l.take (k+1))=nat (l.take k)+4294967296^k*v.toNat:=by
 have hk:k<l.length:=(List.getElem?_eq_some_iff.1 h).1
 rw[List.take_add_one,h]
 show nat (l.take k++[v])=_
 rw[iJ,List.length_take,Nat.min_eq_left (Nat.le_of_lt hk)]
 simp[nat]
theorem lB{l:Words}{k:Nat}{v:UInt32}(h:l[k]? = some v):nat (l.drop k)=v.toNat+4294967296*nat (l.drop (k+1)):=by
 have hk:k<l.length:=(List.getElem?_eq_some_iff.1 h).1
 have hv:l[k]=v:=by
  have:=List.getElem?_eq_getElem hk
  rw[h] at this;injection this with this;exact this.symm
 rw[List.drop_eq_getElem_cons hk,hv];rfl
theorem iK:∀n:Nat,nat (List.replicate n 0)=0
 |0=>rfl
 |n+1=>by
  show(0:UInt32).toNat+4294967296*nat (List.replicate n 0)=0
  rw[iK n];rfl
theorem kQ:∀(l:Words) (k:Nat) (v u:UInt32),l[k]? = some u→nat (l.set k v)+4294967296^k*u.toNat=nat l+4294967296^k*v.toNat
 |[],k,v,u,h=>by simp at h
 |w::r,0,v,u,h=>by
  simp at h;subst h
  show v.toNat+4294967296*nat r+4294967296^0*w.toNat=w.toNat+4294967296*nat r+4294967296^0*v.toNat
  omega
 |w::r,k+1,v,u,h=>by
  have ih:=kQ r k v u (by simpa using h)
  show w.toNat+4294967296*nat (r.set k v)+4294967296^(k+1)*u.toNat=w.toNat+4294967296*nat r+4294967296^(k+1)*v.toNat
  rw[Nat.pow_succ,Nat.mul_comm (4294967296^k) 4294967296,Nat.mul_assoc,Nat.mul_assoc]
  omega
theorem dF{l:Words}{k:Nat}{v:UInt32}(h:k<l.length):nat ((l.set k v).take (k+1))=nat (l.take k)+4294967296^k*v.toNat:=by
 rw[aZ (v:=v) (by simp[h]),List.take_set_of_le (Nat.le_refl k)]
theorem aC{l:Words}{k:Nat}(h:l.length≤k):nat (l.take k)=nat l:=by rw[List.take_of_length_le h]
theorem cx{n k:Nat}(h:n<4294967296^k):(words n).length≤k:=by
 have key:∀(l:Words),cn l=true→∀k,nat l<4294967296^k→l.length≤k:=by
  intro l
  induction l with
  |nil=>intro _ k _;simp
  |cons w r ih =>
   intro hc k hk
   have hp:=k9 hc (by simp)
   cases k with
   |zero=>simp at hk;omega
   |succ k =>
    have h1:w.toNat+4294967296*nat r<4294967296^(k+1):=hk
    rw[Nat.pow_succ] at h1
    have:=ih (wN hc) k (by omega)
    simp;omega
 exact key _ (dY n) k (by rw[au];exact h)
theorem fJ(n:Nat):n<4294967296^(words n).length:=by
 have:=cr (words n)
 rwa[au] at this
theorem il{a b:Nat}(h:a≤b):4294967296^a≤4294967296^b:=Nat.pow_le_pow_right (by omega) h
theorem cd{m n:Nat}(h:m≤n):(words m).length≤(words n).length:=cx (Nat.lt_of_le_of_lt h (fJ n))
theorem ue(l:Words):(words (nat l)).length≤l.length:=cx (cr l)
theorem ya{l:Words}(hc:cn l=true)(fP:l≠[]):4294967296^(l.length-1)≤nat l:=by
 refine Nat.le_of_not_lt fun h => ?_
 have h1:=cx h
 rw[cI hc] at h1
 have:0<l.length:=List.length_pos_iff.2 fP
 omega
theorem iO:∀{l:Words} {v:UInt32},l[l.length-1]? = some v→(cn l=true↔v.toNat≠0)
 |[],v,h=>by simp at h
 |[w],v,h=>by simp at h;subst h;simp[cn]
 |w::u::r,v,h=>by
  have h':(u::r)[(u::r).length-1]? = some v:=by
   simp only[List.length_cons,Nat.add_sub_cancel] at h ⊢
   rw[show r.length+1=(r.length)+1 from rfl,List.getElem?_cons_succ] at h
   exact h
  exact iO (l:=u::r) h'
open Go Path
abbrev Fit(l:Words):Prop:=l.length≤1099511627776
def aj.valid(a:aj):Bool:=bif a.bw.isEmpty then !a.neg else cn a.bw
def aj.val(a:aj):Int:=bif a.valid then (bif a.neg then -(nat a.bw:Int) else (nat a.bw:Int)) else 0
def whole(i:Int):aj:=⟨decide (i<0),words i.natAbs⟩
theorem ax(i:Int):(whole i).val=i:=by
 unfold aj.val aj.valid whole
 simp only[au]
 by_cases h:i=0
 ·subst h;rfl
 ·have h1:(words i.natAbs).isEmpty=false:=by
   rw[List.isEmpty_eq_false_iff]
   intro e
   rw[nM] at e
   omega
  rw[h1]
  simp only[cond_false,dY,cond_true]
  by_cases h2:i<0
  ·simp[h2];omega
  ·simp[h2];omega
theorem bP{l:Words} : l.isEmpty=decide (l.length=0):=by cases l<;>simp
namespace ct
theorem Valid(a:aj)(h:Fit a.bw):Cp 60 [a.pv] (vB a.valid):=by
 unfold aj.valid
 rw[bP]
 by_cases h0:a.bw.length=0
 ·simp only[h0,decide_true,cond_true]
  exact k6.e0 a h0
 ·simp only[h0,decide_false,cond_false]
  obtain⟨v,hv⟩:∃v,a.bw[a.bw.length-1]? = some v:=⟨_,List.getElem?_eq_getElem (by omega)⟩
  have:=k6.e1 a (a.bw.length-1) v h0 (by unfold ar;omega) (by omega) hv
  have e:cn a.bw=((v.toNat:Int) != 0):=by
   have h1:=iO hv
   by_cases h2:v.toNat=0
   ·have h3:((v.toNat:Int) != 0)=false:=by simp[h2]
    rw[h3]
    cases hc:cn a.bw with
    |true=>exact absurd h2 (h1.1 hc)
    |false=>rfl
   ·have h3:((v.toNat:Int) != 0)=true:=by simp;omega
    rw[h3];exact h1.2 h2
  rw[e];exact this
theorem sE(a:aj):decide (a.val<0)=(a.valid&&a.neg):=by
 unfold aj.val
 cases hv:a.valid with
 |false=>simp
 |true =>
  cases hn:a.neg with
  |false=>simp
  |true =>
   simp only[cond_true,Bool.and_true]
   unfold aj.valid at hv
   have:0<nat a.bw:=by
    cases he:a.bw.isEmpty with
    |true=>rw[he,hn] at hv;cases hv
    |false =>
     rw[he] at hv
     exact k9 hv (by rw[←List.isEmpty_eq_false_iff];exact he)
   simp;omega
theorem wO(a:aj):words a.val.natAbs=bif a.valid then a.bw else []:=by
 unfold aj.val
 cases hv:a.valid with
 |false=>rfl
 |true =>
  have hc:cn a.bw=true:=by
   unfold aj.valid at hv
   cases he:a.bw.isEmpty with
   |true=>rw[List.isEmpty_iff] at he;rw[he];rfl
   |false=>rw[he] at hv;exact hv
  cases hn:a.neg with
  |false=>simp only[cond_true,cond_false,Int.natAbs_natCast];exact cI hc
  |true=>simp only[cond_true,Int.natAbs_neg,Int.natAbs_natCast];exact cI hc
theorem bw(a:aj)(h:Fit a.bw):Cp 77 [a.pv] (aa (words a.val.natAbs)):=by
 rw[wO]
 cases hv:a.valid with
 |false=>exact nj.e0 a a.valid (Valid a h) hv
 |true=>exact nj.e1 a a.valid (Valid a h) hv
theorem neg(a:aj)(h:Fit a.bw):Cp 79 [a.pv] (vB (decide (a.val<0))):=by
 rw[sE]
 cases hv:a.valid with
 |false=>exact nk.e1 a a.valid (Valid a h) hv
 |true=>rw[Bool.true_and];exact nk.e0 a a.valid (Valid a h) hv
theorem trim(m:Words)(h:m.length≤35184372088832):Cp 104 [aa m] (aa (words (nat m))):=by
 have loop:∀n:Nat,n≤m.length→nat (m.take n)=nat m→fF.ag m (n:Int) (aa (words (nat m))):=by
  intro n
  induction n with
  |zero =>
   intro _ h2
   have:nat m=0:=by rw[←h2];rfl
   rw[this,cJ]
   exact fF.zE m _ (by omega) rfl
  |succ n ih =>
   intro h1 h2
   obtain⟨v,hv⟩:∃v,m[n]? = some v:=⟨_,List.getElem?_eq_getElem (by omega)⟩
   by_cases h0:v.toNat=0
   ·refine fF.l10 m _ n v (by omega) (by unfold ar;omega) (by omega) hv h0 ?_
    rw[show ((n+1:Nat):Int)-1=(n:Int) from by omega]
    refine ih (by omega) ?_
    rw[aZ hv,h0] at h2
    simpa using h2
   ·have:=fF.mD m ((n+1:Nat):Int) n v (n+1) (by omega) (by unfold ar;omega) (by omega) hv h0 (by omega) rfl h1 (by simp;omega)
    have e:words (nat m)=m.take (n+1):=by
     refine nr ?_ h2
     refine(iO (v:=v) ?_).2 h0
     rw[List.length_take,Nat.min_eq_left h1,Nat.add_sub_cancel,List.getElem?_take,if_pos (by omega)]
     exact hv
    rw[e];exact this
 exact fF.e0 m (loop m.length (Nat.le_refl _) (aC (Nat.le_refl _)))
theorem whole(neg:Bool)(m:Words)(h:m.length≤35184372088832):Cp 90 [vB neg,aa m] (whole (bif neg then -(nat m:Int) else (nat m:Int))).pv:=by
 cases neg with
 |false =>
  have:=k7.e1 false m _ (trim m h) rfl
  have e:decide ((nat m:Int)<0)=false:=by simp
  simp only[Sym.whole,cond_false,e,Int.natAbs_natCast]
  exact this
 |true =>
  have:=k7.e0 true m _ (trim m h) rfl
  have e:decide (((words (nat m)).length:Int)>0)=decide (-(nat m:Int)<0):=by
   have:=bO (n:=nat m)
   by_cases h0:nat m=0
   ·have h1:=this.2 h0
    simp[h0,cJ]
   ·have h1:¬(words (nat m)).length=0:=fun h=>h0 (this.1 h)
    rw[decide_eq_true (by omega),decide_eq_true (by omega)]
  rw[e] at this
  simpa[Sym.whole] using this
def wd(m:Words)(i:Nat):Nat:=match m[i]? with
 |some w=>w.toNat
 |none=>0
theorem jb(m:Words)(i:Nat):wd m i<4294967296:=by
 unfold wd
 cases m[i]? with
 |none=>simp
 |some w=>exact eM w
theorem eZ{m:Words}{i:Nat}{v:UInt32}(h:m[i]? = some v):wd m i=v.toNat:=by unfold wd;rw[h]
theorem pU{m:Words}{i:Nat}(h:m.length≤i):wd m i=0:=by unfold wd;rw[List.getElem?_eq_none h]
theorem cf(m:Words)(k:Nat):nat (m.take (k+1))=nat (m.take k)+4294967296^k*wd m k:=by
 by_cases h:k<m.length
 ·have hv:=List.getElem?_eq_getElem h
  rw[aZ hv,eZ hv]
 ·rw[aC (by omega),aC (by omega),pU (by omega)]
  omega
theorem word(m:Words)(i:Nat):Cp 123 [aa m,vI (i:Int)] (vU (wd m i)):=by
 unfold wd
 cases h:m[i]? with
 |none =>
  have:=List.getElem?_eq_none_iff.1 h
  exact me.e1 m i (by omega)
 |some v =>
  have:=(List.getElem?_eq_some_iff.1 h).1
  exact me.e0 m i i v (by omega) rfl h
theorem plus(a b:Words)(ha:a.length≤2199023255552)(hb:b.length≤2199023255552):Cp 95 [aa a,aa b] (aa (words (nat a+nat b))):=by
 have hm:max a.length b.length≤2199023255552:=by omega
 have loop:∀(j t carry:Nat) (site:Words),max a.length b.length+1-t=j→t≤max a.length b.length+1→site.length=max a.length b.length+1→carry≤1 →
   nat (site.take t)+4294967296^t*carry=nat (a.take t)+nat (b.take t)→hK.ag a b carry t site (aa (words (nat a+nat b))):=by
  intro j
  induction j with
  |zero =>
   intro t carry site hj ht hs hc hinv
   have pG:t=max a.length b.length+1:=by omega
   have z7:nat site=nat a+nat b:=by
    rw[aC (by omega),aC (by omega),aC (by omega)] at hinv
    have h1:=cr a
    have h2:=cr b
    have h3:=il (show a.length≤t-1 by omega)
    have h4:=il (show b.length≤t-1 by omega)
    have h5:(4294967296:Nat)^t=4294967296^(t-1)*4294967296:=by rw[←Nat.pow_succ];congr 1;omega
    have Cj:carry=0:=by
     cases carry with
     |zero=>rfl
     |succ c =>
      have h6:4294967296^t*1≤4294967296^t*(c+1):=Nat.mul_le_mul_left _ (by omega)
      omega
    subst Cj;simpa using hinv
   have:=hK.cW a b carry t site (words (nat site)) (by omega) (by omega) (trim site (by omega))
   rwa[z7] at this
  |succ j ih =>
   intro t carry site hj ht hs hc hinv
   have h1:=jb a t
   have h2:=jb b t
   obtain⟨w,hw⟩:=dX ((carry+(wd a t+wd b t))%4294967296) (by omega)
   refine hK.l10 a b carry t site _ _ (wd a t+wd b t) (carry+(wd a t+wd b t)) w _ (by omega) (word a t) (word b t) (by omega) (by omega) hw.symm (by omega) rfl (by omega) ?_
   refine ih (t+1) _ (site.set t w) (by omega) (by omega) (by simpa using hs) (by simp;omega) ?_
   rw[dF (by omega),cf a t,cf b t,hw]
   have h5:(4294967296:Nat)^(t+1)=4294967296^t*4294967296:=Nat.pow_succ ..
   rw[h5,Nat.mul_assoc]
   have h6:4294967296^t*((carry+(wd a t+wd b t))%4294967296)+4294967296^t*(4294967296*((carry+(wd a t+wd b t))/2^min 32 64))=4294967296^t*carry+4294967296^t*wd a t+4294967296^t*wd b t:=by
    rw[←Nat.mul_add,←Nat.mul_add,←Nat.mul_add]
    congr 1
    have:(2:Nat)^min 32 64=4294967296:=by decide
    rw[this];omega
   omega
 exact hK.e0 a b (by omega) (by omega) (loop _ 0 0 _ rfl (by omega) (by simp) (by omega) (by simp[nat]))
end ct
def bX(a b:Int):Int:=if a<b then -1 else if a=b then 0 else 1
theorem kR{a b:Int}(h:a<b):bX a b = -1:=by simp[bX,h]
theorem mm{a b:Int}(h:b<a):bX a b=1:=by unfold bX;rw[if_neg (by omega),if_neg (by omega)]
theorem sF{a b:Int}(h:a=b):bX a b=0:=by unfold bX;rw[if_neg (by omega),if_pos h]
theorem qW(l:Words)(k:Nat){v:UInt32}(h:l[k]? = some v):nat l=nat (l.take k)+4294967296^k*v.toNat+4294967296^(k+1)*nat (l.drop (k+1)):=by
 have hk:=(List.getElem?_eq_some_iff.1 h).1
 rw[fI l k (by omega),lB h,Nat.pow_succ,Nat.mul_add,Nat.mul_assoc]
 omega
theorem uf{a b:Words}{k:Nat}{v w:UInt32}(ha:a[k]? = some v)(hb:b[k]? = some w)(hd:a.drop (k+1)=b.drop (k+1))(h:v.toNat<w.toNat):nat a<nat b:=by
 rw[qW a k ha,qW b k hb,hd]
 have h1:=cr (a.take k)
 have h2:=il (show (a.take k).length≤k by simp;omega)
 have h3:4294967296^k*(v.toNat+1)≤4294967296^k*w.toNat:=Nat.mul_le_mul_left _ h
 rw[Nat.mul_add] at h3
 omega
namespace ct
theorem compare(a b:Words)(ha:cn a=true)(hb:cn b=true)(hl:a.length<9223372036854775808):Cp 78 [aa a,aa b] (vI (bX (nat a) (nat b))):=by
 by_cases hlen:a.length=b.length
 ·have loop:∀n:Nat,n≤a.length→a.drop n=b.drop n→bZ.ag a b ((n:Int)-1) (vI (bX (nat a) (nat b))):=by
   intro n
   induction n with
   |zero =>
    intro _ hd
    have:a=b:=by simpa using hd
    rw[sF (by rw[this])]
    exact bZ.zE a b _ (by omega)
   |succ n ih =>
    intro hn hd
    obtain⟨v,hv⟩:∃v,a[n]? = some v:=⟨_,List.getElem?_eq_getElem (by omega)⟩
    obtain⟨w,hw⟩:∃w,b[n]? = some w:=⟨_,List.getElem?_eq_getElem (by omega)⟩
    by_cases he:v.toNat=w.toNat
    ·refine bZ.mD a b _ n v n w (by omega) (by omega) hv (by omega) hw he (by unfold ar;omega) ?_
     rw[show ((n+1:Nat):Int)-1-1=(n:Int)-1 from by omega]
     refine ih (by omega) ?_
     have h1:=List.getElem_of_getElem? hv
     obtain⟨h1,h2⟩:=List.getElem?_eq_some_iff.1 hv
     obtain⟨h3,h4⟩:=List.getElem?_eq_some_iff.1 hw
     rw[List.drop_eq_getElem_cons h1,List.drop_eq_getElem_cons h3,h2,h4,hd,HN he]
    ·by_cases cS:v.toNat<w.toNat
     ·rw[kR (by have:=uf hv hw hd cS;omega)]
      exact bZ.l10 a b _ n v n w n v n w (by omega) (by omega) hv (by omega) hw he (by omega) hv (by omega) hw cS
     ·rw[mm (by have:=uf hw hv hd.symm (by omega);omega)]
      exact bZ.cW a b _ n v n w n v n w (by omega) (by omega) hv (by omega) hw he (by omega) hv (by omega) hw (by omega)
  refine bZ.e2 a b hlen (by unfold ar;omega) (loop a.length (Nat.le_refl _) ?_)
  rw[List.drop_of_length_le (Nat.le_refl _),List.drop_of_length_le (by omega)]
 ·have key:∀x y:Words,cn y=true→x.length<y.length→nat x<nat y:=by
   intro x y hy cS
   have h1:=cr x
   have h2:=ya hy (by intro e;rw[e] at cS;simp at cS)
   have h3:=il (show x.length≤y.length-1 by omega)
   omega
  by_cases cS:a.length<b.length
  ·rw[kR (by have:=key a b hb cS;omega)]
   exact bZ.e0 a b hlen cS
  ·rw[mm (by have:=key b a ha (by omega);omega)]
   exact bZ.e1 a b hlen (by omega)
theorem less(a b:Words)(ha:a.length≤2199023255552)(pV:nat b≤nat a):Cp 96 [aa a,aa b] (aa (words (nat a-nat b))):=by
 have loop:∀(j t borrow:Nat) (site:Words),a.length-t=j→t≤a.length→site.length=a.length→borrow≤1 →
   nat (site.take t)+nat (b.take t)=nat (a.take t)+4294967296^t*borrow→hO.ag a b borrow t site (aa (words (nat a-nat b))):=by
  intro j
  induction j with
  |zero =>
   intro t borrow site hj ht hs hc hinv
   have pG:t=a.length:=by omega
   have z7:nat site=nat a-nat b:=by
    subst pG
    rw[aC (by omega),aC (l:=a) (by omega)] at hinv
    have h1:=cr a
    have h2:=cr site
    rw[hs] at h2
    have h3:nat (b.take a.length)=nat b:=by
     by_cases hl:b.length≤a.length
     ·exact aC hl
     ·have h4:=fI b a.length (by omega)
      have h5:nat (b.drop a.length)=0:=by
       refine Nat.eq_zero_of_not_pos fun hp => ?_
       have:=Nat.mul_le_mul_left (4294967296^a.length) hp
       omega
      rw[h5] at h4;omega
    have AX:borrow=0:=by
     refine Nat.eq_zero_of_not_pos fun hp => ?_
     have:=Nat.mul_le_mul_left (4294967296^a.length) hp
     omega
    subst AX
    omega
   have:=hO.cW a b borrow t site (words (nat site)) (by omega) (by omega) (trim site (by omega))
   rwa[z7] at this
  |succ j ih =>
   intro t borrow site hj ht hs hc hinv
   obtain⟨v,hv⟩:∃v,a[t]? = some v:=⟨_,List.getElem?_eq_getElem (by omega)⟩
   have h1:=eM v
   have h2:=jb b t
   have hz:∃(d d1 x nb:Nat),((v.toNat:Nat)-(wd b t:Nat):Int)%18446744073709551616=(d:Int)∧((d:Nat)-(borrow:Nat):Int)%18446744073709551616=(d1:Int)∧d1%4294967296=x∧d1/2^min 63 64=nb∧nb≤1∧x<4294967296∧x+wd b t+borrow=v.toNat+4294967296*nb:=by
    refine⟨(((v.toNat:Nat)-(wd b t:Nat):Int)%18446744073709551616).toNat,((((v.toNat:Nat)-(wd b t:Nat):Int)%18446744073709551616-borrow)%18446744073709551616).toNat,_,_,by omega,by omega,rfl,rfl,?_⟩
    have e:(2:Nat)^min 63 64=9223372036854775808:=by decide
    rw[e]
    generalize wd b t=q at *
    generalize v.toNat=p at *
    by_cases Gd:q+borrow≤p
    ·have e1:(((p:Int)-(q:Int))%18446744073709551616-borrow)%18446744073709551616=(p:Int)-q-borrow:=by omega
     rw[e1];omega
    ·have e1:(((p:Int)-(q:Int))%18446744073709551616-borrow)%18446744073709551616=(p:Int)-q-borrow+18446744073709551616:=by omega
     rw[e1];omega
   obtain⟨d,d1,x,nb,g1,g2,g3,g4,g5,g6,g7⟩:=hz
   obtain⟨w,hw⟩:=dX x g6
   refine hO.l10 a b borrow t site v _ d d1 w nb (by omega) hv (word b t) g1 g2 (by omega) (by omega) g4 (by omega) ?_
   refine ih (t+1) nb (site.set t w) (by omega) (by omega) (by simpa using hs) g5 ?_
   rw[dF (by omega),aZ hv,cf b t,hw,Nat.pow_succ,Nat.mul_assoc]
   have h6:4294967296^t*x+4294967296^t*wd b t+4294967296^t*borrow=4294967296^t*v.toNat+4294967296^t*(4294967296*nb):=by
    rw[←Nat.mul_add,←Nat.mul_add,←Nat.mul_add,g7]
   omega
 exact hO.e0 a b (by omega) (loop _ 0 0 _ rfl (by omega) (by simp) (by omega) (by simp[nat]))
theorem pW{p q:Nat}(hp:p<4294967296)(hq:q<4294967296):p*q≤18446744065119617025:=by
 have:=Nat.mul_le_mul (show p≤4294967295 by omega) (show q≤4294967295 by omega)
 omega
theorem times(a b:Words)(ha:a.length≤2199023255552)(hb:b.length≤2199023255552):Cp 97 [aa a,aa b] (aa (words (nat a*nat b))):=by
 have inner:∀(i:Nat) (v:UInt32) (r:PV),i<a.length→(∀site:Words,site.length=a.length+b.length→nat site=nat (a.take i)*nat b+4294967296^i*(v.toNat*nat b)→(∀q,i+1+b.length≤q→q<site.length→wd site q=0)→cO.ag b a (i+1) site r) →
   ∀(j k carry:Nat) (site:Words),b.length-k=j→k≤b.length→site.length=a.length+b.length→carry<4294967296→(∀q,i+b.length≤q→q<site.length→wd site q=0) →
   nat site+4294967296^(i+k)*carry=nat (a.take i)*nat b+4294967296^i*(v.toNat*nat (b.take k))→cO.aM b a i v carry i k site r:=by
  intro i v r hi zh j
  induction j with
  |zero =>
   intro k carry site hj hk hs hc hz hinv
   have LN:k=b.length:=by omega
   subst LN
   obtain⟨w,hw⟩:=dX carry hc
   refine cO.sf b a i v carry i b.length site w (by omega) (by omega) (by omega) (by omega) (by omega) (by omega) (zh _ (by simpa using hs) ?_ ?_)
   ·obtain⟨u,hu⟩:∃u,site[i+b.length]? = some u:=⟨_,List.getElem?_eq_getElem (by omega)⟩
    have h0:=hz (i+b.length) (by omega) (by omega)
    rw[eZ hu] at h0
    have h1:=kQ site (i+b.length) w u hu
    rw[h0,hw] at h1
    rw[aC (l:=b) (by omega)] at hinv
    omega
   ·intro q Iz yG
    rw[List.length_set] at yG
    have:=hz q (by omega) yG
    unfold wd at this ⊢
    rw[List.getElem?_set_ne (by omega)]
    exact this
  |succ j ih =>
   intro k carry site hj hk hs hc hz hinv
   obtain⟨u,hu⟩:∃u,b[k]? = some u:=⟨_,List.getElem?_eq_getElem (by omega)⟩
   obtain⟨x,hx⟩:∃x,site[i+k]? = some x:=⟨_,List.getElem?_eq_getElem (by omega)⟩
   have h1:=pW (eM v) (eM u)
   have h2:=eM x
   generalize hp:v.toNat*u.toNat=p at *
   obtain⟨w,hw⟩:=dX ((carry+(p+x.toNat))%4294967296) (by omega)
   have e:(2:Nat)^min 32 64=4294967296:=by decide
   refine cO.tY b a i v carry i k site u p x (p+x.toNat) (carry+(p+x.toNat)) w ((carry+(p+x.toNat))/4294967296) (by omega) hu (by rw[hp];omega) (by omega) (by omega) hx (by omega) (by omega) hw.symm (by omega) (by rw[e]) (by omega) ?_
   refine ih (k+1) _ (site.set (i+k) w) (by omega) (by omega) (by simpa using hs) (by omega) ?_ ?_
   ·intro q Iz yG
    rw[List.length_set] at yG
    have:=hz q Iz yG
    unfold wd at this ⊢
    rw[List.getElem?_set_ne (by omega)]
    exact this
   ·have g1:=kQ site (i+k) w x hx
    rw[hw] at g1
    rw[aZ hu,show i+(k+1)=i+k+1 from rfl,Nat.pow_succ,Nat.mul_assoc]
    have g2:4294967296^(i+k)*((carry+(p+x.toNat))%4294967296)+4294967296^(i+k)*(4294967296*((carry+(p+x.toNat))/4294967296))=4294967296^(i+k)*carry+4294967296^(i+k)*p+4294967296^(i+k)*x.toNat:=by
     rw[←Nat.mul_add,←Nat.mul_add,←Nat.mul_add];congr 1;omega
    have g3:4294967296^i*(v.toNat*(nat (b.take k)+4294967296^k*u.toNat))=4294967296^i*(v.toNat*nat (b.take k))+4294967296^(i+k)*p:=by
     rw[←hp,Nat.pow_add,Nat.mul_add,Nat.mul_add]
     congr 1
     rw[Nat.mul_assoc];congr 1
     rw[Nat.mul_left_comm]
    omega
 have loop:∀(j t:Nat) (site:Words),a.length-t=j→t≤a.length→site.length=a.length+b.length→nat site=nat (a.take t)*nat b→(∀q,t+b.length≤q→q<site.length→wd site q=0) →
   cO.ag b a t site (aa (words (nat a*nat b))):=by
  intro j
  induction j with
  |zero =>
   intro t site hj ht hs hinv _
   rw[aC (by omega)] at hinv
   have:=cO.cW b a t site (words (nat site)) (by omega) (by omega) (trim site (by omega))
   rwa[hinv] at this
  |succ j ih =>
   intro t site hj ht hs hinv hz
   obtain⟨v,hv⟩:∃v,a[t]? = some v:=⟨_,List.getElem?_eq_getElem (by omega)⟩
   refine cO.l10 b a t site v (by omega) hv ?_
   refine inner t v _ (by omega) (fun Dz Cy IZ Ep => ?_) _ 0 0 site rfl (by omega) hs (by omega) hz ?_
   ·refine ih (t+1) Dz (by omega) (by omega) Cy ?_ Ep
    rw[IZ,aZ hv,Nat.add_mul,Nat.mul_assoc]
   ·simp[nat,hinv]
 refine cO.e0 a b (by omega) (by omega) (loop _ 0 _ rfl (by omega) (by simp) (by simp[nat,iK]) ?_)
 intro q _ hq
 unfold wd
 rw[List.getElem?_replicate]
 split
 ·rename_i w h
  split at h
  ·injection h with h;subst h;rfl
  ·cases h
 ·rfl
theorem wP{x y:Nat}(hx:x<4294967296)(hy:y<4294967296):((x*4294967296)%18446744073709551616) ||| (y%18446744073709551616)=x*4294967296+y:=by
 rw[Nat.mod_eq_of_lt (by omega),Nat.mod_eq_of_lt (by omega),Nat.mul_comm]
 exact(Nat.two_pow_add_eq_or_of_lt (i:=32) hy x).symm
theorem short(a:Words)(b:UInt32)(ha:a.length≤2199023255552)(hb:b.toNat≠0):Cp 80 [aa a,vW b] (.aY [aa (words (nat a/b.toNat)),vW (UInt32.ofNat (nat a%b.toNat))]):=by
 have Du:=eM b
 have loop:∀(n rest:Nat) (site:Words),n≤a.length→site.length=a.length→rest<b.toNat→nat (a.drop n)=nat (site.drop n)*b.toNat+rest →
   gd.ag a b rest ((n:Int)-1) site (.aY [aa (words (nat a/b.toNat)),vW (UInt32.ofNat (nat a%b.toNat))]):=by
  intro n
  induction n with
  |zero =>
   intro rest site _ hs hr hinv
   simp only[List.drop_zero] at hinv
   have h1:nat a/b.toNat=nat site:=by rw[hinv,Nat.mul_comm,Nat.mul_add_div (by omega),Nat.div_eq_of_lt hr,Nat.add_zero]
   have h2:nat a%b.toNat=rest:=by rw[hinv,Nat.mul_comm,Nat.mul_add_mod,Nat.mod_eq_of_lt hr]
   have hw:rest%4294967296=(UInt32.ofNat rest).toNat:=(nL rest).symm
   rw[h1,h2]
   exact gd.cW a b rest _ site (words (nat site)) _ (by omega) hs.symm (trim site (by omega)) hw
  |succ n ih =>
   intro rest site hn hs hr hinv
   obtain⟨v,hv⟩:∃v,a[n]? = some v:=⟨_,List.getElem?_eq_getElem (by omega)⟩
   have s6:=eM v
   have e:(2:Nat)^min 32 64=4294967296:=by decide
   have hq:(rest*4294967296+v.toNat)/b.toNat<4294967296:=by
    rw[Nat.div_lt_iff_lt_mul (by omega)]
    have:=Nat.mul_le_mul_right 4294967296 (show rest+1≤b.toNat by omega)
    rw[Nat.add_mul] at this
    rw[Nat.mul_comm 4294967296];omega
   obtain⟨w,hw⟩:=dX _ hq
   refine gd.l10 a b rest _ site _ n v (rest*4294967296+v.toNat) ((rest*4294967296+v.toNat)/b.toNat) w n ((rest*4294967296+v.toNat)%b.toNat) (by omega) rfl (by omega) hv ?_ hb (by omega) (by omega) (by omega) (by omega) (by omega) rfl (by unfold ar;omega) ?_
   ·rw[e,Nat.mod_eq_of_lt (show rest*4294967296<18446744073709551616 by omega)]
    exact(by have:=wP (show rest<4294967296 by omega) s6;rw[Nat.mod_eq_of_lt (show rest*4294967296<18446744073709551616 by omega)] at this;rw[Nat.mod_eq_of_lt (show rest*4294967296<18446744073709551616 by omega)];exact this)
   ·rw[show ((n+1:Nat):Int)-1-1=(n:Int)-1 from by omega]
    refine ih _ (site.set n w) (by omega) (by simpa using hs) (Nat.mod_lt _ (by omega)) ?_
    rw[lB hv,lB (l:=site.set n w) (v:=w) (by rw[List.getElem?_set_self (by omega)]),List.drop_set_of_lt (by omega),hinv,hw]
    have h5:=Nat.div_add_mod (rest*4294967296+v.toNat) b.toNat
    generalize (rest*4294967296+v.toNat)/b.toNat=q at *
    generalize (rest*4294967296+v.toNat)%b.toNat=m at *
    generalize nat (site.drop (n+1))=S at *
    generalize b.toNat=B at *
    rw[Nat.add_mul,Nat.mul_add,Nat.mul_comm q B]
    rw[←Nat.mul_assoc]
    omega
 have:=gd.e0 a b (r:=_) (by omega) (by unfold ar;omega) (loop a.length 0 _ (Nat.le_refl _) (by simp) (by omega) (by rw[List.drop_of_length_le (Nat.le_refl _),List.drop_of_length_le (by simp)];simp[nat]))
 exact this
end ct
def blen(n:Nat):Nat:=bif Nat.beq n 0 then 0 else Nat.log2 n+1
theorem Fk{n k:Nat}(h1:2^k≤n)(h2:n<2^(k+1)):blen n=k+1:=by
 have h0:n≠0:=by have:=Nat.two_pow_pos k;omega
 have hb:Nat.beq n 0=false:=by
  cases hb:Nat.beq n 0 with
  |true=>exact absurd (Nat.eq_of_beq_eq_true hb) h0
  |false=>rfl
 unfold blen
 rw[hb,cond_false]
 congr 1
 have g1:=(Nat.le_log2 h0).2 h1
 have g2:=(Nat.log2_lt h0).2 h2
 omega
theorem nN:blen 0=0:=rfl
theorem nO{n:Nat}(h:n≠0):∃k,blen n=k+1∧2^k≤n∧n<2^(k+1):=by
 have hb:Nat.beq n 0=false:=by
  cases hb:Nat.beq n 0 with
  |true=>exact absurd (Nat.eq_of_beq_eq_true hb) h
  |false=>rfl
 refine⟨Nat.log2 n,?_,Nat.log2_self_le h,Nat.lt_log2_self⟩
 unfold blen
 rw[hb,cond_false]
theorem nt{n k:Nat}(h:2^k≤n):blen n=k+blen (n/2^k):=by
 have hk:=Nat.two_pow_pos k
 have h0:n/2^k≠0:=by
  have:=Nat.div_pos h hk
  omega
 obtain⟨m,h1,h2,h3⟩:=nO h0
 have:=Fk (n:=n) (k:=k+m) (by
  rw[Nat.pow_add]
  have:=Nat.mul_le_mul_left (2^k) h2
  have:=Nat.mul_div_le n (2^k)
  omega) (by
  have h4:=(Nat.div_lt_iff_lt_mul hk).1 h3
  rw[←Nat.pow_add] at h4
  rw[show k+m+1=m+1+k from by omega]
  exact h4)
 omega
theorem mn{n k:Nat}(h:n<2^k):blen n≤k:=by
 by_cases h0:n=0
 ·subst h0;simp[nN]
 ·obtain⟨m,h1,h2,_⟩:=nO h0
  have:=(Nat.pow_lt_pow_iff_right (a:=2) (by omega)).1 (Nat.lt_of_le_of_lt h2 h)
  omega
theorem Fm(n:Nat):n<2^blen n:=by
 by_cases h0:n=0
 ·subst h0;simp[nN]
 ·obtain⟨m,h1,_,h3⟩:=nO h0
  rw[h1];exact h3
namespace Gi
def M0:ByteArray:=(ByteArray.mk #[0,1,2,2,3,3,3,3,4,4,4,4,4,4,4,4,5,5,5,5,5,5,5,5,5,5,5,5,5,5,5,5,6,6,6,6,6,6,6,6,6,6,6,6,6,6,6,6,6,6,6,6,6,6,6,6,6,6,6,6,6,6,6,6,7,7,7,7,7,7,7,7,7,7,7,7,7,7,7,7,7,7,7,7,7,7,7,7,7,7,7,7,7,7,7,7,7,7,7,7,7,7,7,7,7,7,7,7,7,7,7,7,7,7,7,7,7,7,7,7,7,7,7,7,7,7,7,7,8,8,8,8,8,8,8,8,8,8,8,8,8,8,8,8,8,8,8,8,8,8,8,8,8,8,8,8,8,8,8,8,8,8,8,8,8,8,8,8,8,8,8,8,8,8,8,8,8,8,8,8,8,8,8,8,8,8,8,8,8,8,8,8,8,8,8,8,8,8,8,8,8,8,8,8,8,8,8,8,8,8,8,8,8,8,8,8,8,8,8,8,8,8,8,8,8,8,8,8,8,8,8,8,8,8,8,8,8,8,8,8,8,8,8,8,8,8,8,8,8,8,8,8,8,8,8,8])
theorem Fo:(List.range 256).all (fun m=>((M0.data.toList[m]?).map fun b=>(b.toNat:Int))==some (blen m:Int))=true:=by decide +kernel
theorem wQ{m:Nat}(h:m<256):((M0.data.toList[m]?).map fun b=>(b.toNat:Int))=some (blen m:Int):=by
 have:=Fo
 rw[List.all_eq_true] at this
 simpa using this m (by simpa using h)
theorem Ju(x:UInt32):Cp 134 [vW x] (vI (blen x.toNat)):=by
 have hx:=eM x
 have M1:(2:Nat)^min 16 32=65536:=by decide
 have e8:(2:Nat)^min 8 32=256:=by decide
 by_cases h1:65536≤x.toNat
 ·obtain⟨z,hz⟩:=dX (x.toNat/65536) (by omega)
  have b1:=nt (n:=x.toNat) (k:=16) h1
  rw[show (2:Nat)^16=65536 from rfl] at b1
  by_cases h2:256≤x.toNat/65536
  ·obtain⟨z1,DA⟩:=dX (x.toNat/65536/256) (by omega)
   have b2:=nt (n:=x.toNat/65536) (k:=8) h2
   rw[show (2:Nat)^8=256 from rfl] at b2
   have b3:=mn (n:=x.toNat/65536/256) (k:=8) (by rw[show (2:Nat)^8=256 from rfl];omega)
   have:=eL.e0 x z z1 (x.toNat/65536/256) (blen (x.toNat/65536/256)) h1 (by rw[M1,hz]) (by omega) (by rw[e8,DA,hz]) (by omega) (wQ (by omega)) (by omega) (by omega)
   rw[b1,b2,←Nat.add_assoc];exact this
  ·have b3:=mn (n:=x.toNat/65536) (k:=8) (by rw[show (2:Nat)^8=256 from rfl];omega)
   have:=eL.e1 x z (x.toNat/65536) (blen (x.toNat/65536)) h1 (by rw[M1,hz]) (by omega) (by omega) (wQ (by omega)) (by omega) (by omega)
   rw[b1];exact this
 ·by_cases h2:256≤x.toNat
  ·obtain⟨z,hz⟩:=dX (x.toNat/256) (by omega)
   have b1:=nt (n:=x.toNat) (k:=8) h2
   rw[show (2:Nat)^8=256 from rfl] at b1
   have b3:=mn (n:=x.toNat/256) (k:=8) (by rw[show (2:Nat)^8=256 from rfl];omega)
   have:=eL.e2 x z (x.toNat/256) (blen (x.toNat/256)) (by omega) h2 (by rw[e8,hz]) (by omega) (wQ (by omega)) (by omega) (by omega)
   rw[b1];exact this
  ·have b3:=mn (n:=x.toNat) (k:=8) (by rw[show (2:Nat)^8=256 from rfl];omega)
   have:=eL.e3 x x.toNat (blen x.toNat) (by omega) (by omega) (by omega) (wQ (by omega)) (by omega) (by omega)
   rw[Nat.zero_add] at this;exact this
theorem ug(x:UInt32):Cp 115 [vW x] (vI ((32-blen x.toNat:Nat):Int)):=by
 have h:=mn (n:=x.toNat) (k:=32) (eM x)
 have:=gf.e0 x _ (Ju x) (by unfold ar;omega)
 rw[show ((32-blen x.toNat:Nat):Int)=32-(blen x.toNat:Int) from by omega]
 exact this
end Gi
theorem vw{s:Nat}(hs:s≤32):2^s*2^(32-s)=4294967296:=by
 rw[←Nat.pow_add,show s+(32-s)=32 from by omega]
namespace ct
theorem Fp{v1 v:Nat}{s:Nat}(hs:s<32)(h1:v1<2^s)(hv:v<4294967296) :
  ∃y w z x,(v*2^min s 64)%18446744073709551616=y∧y%4294967296=w∧(v1%4294967296) ||| (w%4294967296)=z∧z<4294967296∧y/4294967296=x∧x<2^s∧w<4294967296∧z+4294967296*x=v1+v*2^s:=by
 have e:=vw (show s≤32 by omega)
 have hp:=Nat.two_pow_pos s
 have hle:2^s≤2147483648:=by
  have:=Nat.pow_le_pow_right (n:=2) (by omega) (show s≤31 by omega)
  simpa using this
 have GW:min s 64=s:=by omega
 rw[GW]
 have hb:v*2^s<18446744073709551616:=by
  have:=Nat.mul_le_mul (show v≤4294967295 by omega) hle
  omega
 rw[Nat.mod_eq_of_lt hb]
 generalize hP:2^s=p at *
 generalize hQ:2^(32-s)=q at *
 have hw:(v*p)%4294967296=p*(v%q):=by rw[←e,Nat.mul_comm v p,Nat.mul_mod_mul_left]
 have hx:(v*p)/4294967296=v/q:=by rw[←e,Nat.mul_comm v p,Nat.mul_div_mul_left _ _ hp]
 have hq:0<q:=by rw[←hQ];exact Nat.two_pow_pos _
 have hm:=Nat.mod_lt v hq
 have cS:p*(v%q)+p≤4294967296:=by
  have:=Nat.mul_le_mul_left p (show v%q+1≤q by omega)
  rw[Nat.mul_add,e] at this;omega
 have IA:v1 ||| p*(v%q)=p*(v%q)+v1:=by
  rw[Nat.or_comm]
  subst hP
  exact(Nat.two_pow_add_eq_or_of_lt h1 (v%q)).symm
 refine⟨_,_,_,_,rfl,rfl,rfl,?_,rfl,?_,by omega,?_⟩
 ·rw[hw,Nat.mod_eq_of_lt (show v1<4294967296 by omega),Nat.mod_eq_of_lt (show p*(v%q)<4294967296 by omega),IA];omega
 ·rw[hx,Nat.div_lt_iff_lt_mul hq,e];exact hv
 ·rw[hw,Nat.mod_eq_of_lt (show v1<4294967296 by omega),Nat.mod_eq_of_lt (show p*(v%q)<4294967296 by omega),IA,hx]
  have:=Nat.div_add_mod v q
  have h3:p*v=p*(q*(v/q))+p*(v%q):=by rw[←Nat.mul_add,this]
  rw[←Nat.mul_assoc,e] at h3
  rw[Nat.mul_comm v p];omega
def Fq(a:Words)(s t:Nat)(site:Words):Prop:=site.length=a.length+1∧nat site=nat (a.take t)*2^s∧(∀q,t<q→q<site.length→wd site q=0)∧wd site t<2^s
theorem Fs{a:Words}{s t:Nat}{site:Words}{v v1 z x:UInt32}(hi:Fq a s t site)(ht:t<a.length)(hv:a[t]? = some v)(wR:site[t]? = some v1)(hx:x.toNat<2^s)(he:z.toNat+4294967296*x.toNat=v1.toNat+v.toNat*2^s) :
  Fq a s (t+1) ((site.set t z).set (t+1) x):=by
 obtain⟨h1,h2,h3,h4⟩:=hi
 refine⟨by simpa using h1,?_,fun q Iz yG => ?_,?_⟩
 ·obtain⟨u,hu⟩:∃u,(site.set t z)[t+1]? = some u:=⟨_,List.getElem?_eq_getElem (by simp;omega)⟩
  have GH:u.toNat=0:=by
   have:=h3 (t+1) (by omega) (by omega)
   rw[List.getElem?_set_ne (by omega)] at hu
   rw[eZ hu] at this;exact this
  have g1:=kQ site t z v1 wR
  have g2:=kQ (site.set t z) (t+1) x u hu
  rw[GH,Nat.mul_zero,Nat.add_zero,Nat.pow_succ,Nat.mul_assoc] at g2
  rw[aZ hv,Nat.add_mul,←h2]
  have g3:4294967296^t*z.toNat+4294967296^t*(4294967296*x.toNat)=4294967296^t*v1.toNat+4294967296^t*v.toNat*2^s:=by
   rw[←Nat.mul_add,he,Nat.mul_add,Nat.mul_assoc]
  omega
 ·rw[List.length_set,List.length_set] at yG
  have:=h3 q (by omega) yG
  unfold wd at this ⊢
  rw[List.getElem?_set_ne (by omega),List.getElem?_set_ne (by omega)]
  exact this
 ·rw[eZ (v:=x) (by rw[List.getElem?_set_self (by simp;omega)])];exact hx
theorem Ft(a:Words)(s:Nat):Fq a s 0 (List.replicate (a.length+1) (0:UInt32)):=by
 refine⟨by simp,by simp[nat,iK],fun q _ hq => ?_,?_⟩
 ·unfold wd
  rw[List.getElem?_replicate]
  rw[List.length_replicate] at hq
  rw[if_pos hq];rfl
 ·unfold wd
  rw[List.getElem?_replicate,if_pos (by omega)]
  exact Nat.two_pow_pos s
theorem up(a:Words)(s:Nat)(ha:a.length≤2199023255552)(hs:s<32):∃z:Words,z.length=a.length+1∧nat z=nat a*2^s∧Cp 116 [aa a,vI (s:Int)] (aa z) ∧
  aq bh 116 [.pv (aa a),.pv (vI (s:Int))] [] (.row 0 0 (a.length+1) 1) [(0,(.pure ((z:List UInt32).map ab).flatten))]:=by
 have loop:∀(j t:Nat) (site:Words),a.length-t=j→t≤a.length→Fq a s t site →
   ∃z:Words,z.length=a.length+1∧nat z=nat a*2^s∧j8.ag (s:Int) a t site (aa z)∧iY.ag (s:Int) a t site [] (.row 0 0 (a.length+1) 1) [(0,(.pure ((z:List UInt32).map ab).flatten))]:=by
  intro j
  induction j with
  |zero =>
   intro t site hj ht hi
   obtain⟨h1,h2,_,_⟩:=hi
   rw[aC (by omega)] at h2
   exact⟨site,h1,h2,j8.cW _ a t site (by omega) h1.symm,by have h9:=iY.cW (s:Int) a t site (sin:=[]) rfl rfl (by omega);rw[List.take_of_length_le (by omega)] at h9;exact h9⟩
  |succ j ih =>
   intro t site hj ht hi
   obtain⟨v,hv⟩:∃v,a[t]? = some v:=⟨_,List.getElem?_eq_getElem (by omega)⟩
   obtain⟨v1,wR⟩:∃v1,site[t]? = some v1:=⟨_,List.getElem?_eq_getElem (by have:=hi.1;omega)⟩
   have LO:v1.toNat<2^s:=by have:=hi.2.2.2;rw[eZ wR] at this;exact this
   obtain⟨y,w,z,x,g1,g2,g3,g4,g5,g6,g7,g8⟩:=Fp hs LO (eM v)
   obtain⟨w',M3⟩:=dX w g7
   obtain⟨z',Ep⟩:=dX z g4
   have hp:=Nat.pow_le_pow_right (n:=2) (by omega) (show s≤32 by omega)
   have hp:2^s≤4294967296:=hp
   obtain⟨x',uP⟩:=dX x (by omega)
   have e:(2:Nat)^min 32 64=4294967296:=by decide
   have hlen:=hi.1
   obtain⟨zz,q1,q2,q3,q4⟩:=ih (t+1) _ (by omega) (by omega) (Fs hi (by omega) hv wR (x:=x') (z:=z') (by omega) (by rw[Ep,uP];exact g8))
   refine⟨zz,q1,q2,?_,?_⟩
   ·exact j8.l10 _ a t site v s y v1 w' z' x x' (by omega) hv rfl g1 (by omega) wR (by omega) (by rw[M3];omega) (by omega) (by omega) (by rw[e];exact g5) (by omega) (by omega) (by simp;omega) q3
   ·exact iY.l10 _ a t site v s y v1 w' z' x x' rfl (by omega) hv rfl g1 (by omega) wR (by omega) (by rw[M3];omega) (by omega) (by omega) (by rw[e];exact g5) (by omega) (by omega) (by simp;omega) q4
 obtain⟨z,h1,h2,h3,h4⟩:=loop a.length 0 _ rfl (by omega) (Ft a s)
 exact⟨z,h1,h2,j8.e0 a _ (by omega) (by omega) h3,iY.e0 a _ (by omega) (by omega) h4⟩
theorem Fu{x y:Nat}(hx:x<4294967296)(hy:y<4294967296):(x%18446744073709551616) ||| ((y*4294967296)%18446744073709551616%18446744073709551616)=y*4294967296+x:=by
 rw[Nat.or_comm,Nat.mod_mod];exact wP hy hx
theorem fk(a:Words)(t:Nat):nat (a.drop t)=wd a t+4294967296*nat (a.drop (t+1)):=by
 by_cases h:t<a.length
 ·have hv:=List.getElem?_eq_getElem h
  rw[lB hv,eZ hv]
 ·rw[List.drop_of_length_le (by omega),List.drop_of_length_le (by omega),pU (by omega)];rfl
theorem nu(a:Words)(t:Nat)(ht:t≤a.length):nat a/4294967296^t=nat (a.drop t):=by
 have h1:=cr (a.take t)
 rw[List.length_take,Nat.min_eq_left ht] at h1
 rw[fI a t ht,Nat.add_comm,Nat.mul_add_div (by omega),Nat.div_eq_of_lt h1,Nat.add_zero]
theorem down(a:Words)(s:Nat)(ha:a.length≤2199023255552)(hs:s<32):Cp 119 [aa a,vI (s:Int)] (aa (words (nat a/2^s))):=by
 have hp:=Nat.two_pow_pos s
 have e2:=vw (show s≤32 by omega)
 have loop:∀(j t:Nat) (site:Words),a.length-t=j→t≤a.length→site.length=a.length→nat (site.take t)=(nat a/2^s)%4294967296^t→ia.ag a (s:Int) t site (aa (words (nat a/2^s))):=by
  intro j
  induction j with
  |zero =>
   intro t site hj ht hl hinv
   have pG:t=a.length:=by omega
   subst pG
   rw[aC (by omega),Nat.mod_eq_of_lt (Nat.lt_of_le_of_lt (Nat.div_le_self _ _) (cr a))] at hinv
   have:=ia.cW a (s:Int) a.length site (words (nat site)) (by omega) hl.symm (trim site (by omega))
   rwa[hinv] at this
  |succ j ih =>
   intro t site hj ht hl hinv
   obtain⟨v,hv⟩:∃v,a[t]? = some v:=⟨_,List.getElem?_eq_getElem (by omega)⟩
   have h1:=eM v
   have h2:=jb a (t+1)
   have e:(2:Nat)^min 32 64=4294967296:=by decide
   obtain⟨w,hw⟩:=dX ((wd a (t+1)*4294967296+v.toNat)/2^s%4294967296) (Nat.mod_lt _ (by omega))
   refine ia.l10 a (s:Int) t site v (wd a (t+1)) _ (wd a (t+1)*4294967296+v.toNat) s ((wd a (t+1)*4294967296+v.toNat)/2^s) w (by omega) hv (by omega) (word a (t+1)) rfl (by rw[e];exact Fu h1 h2) rfl (by rw[show min s 64=s from by omega]) hw.symm (by omega) ?_
   refine ih (t+1) (site.set t w) (by omega) (by omega) (by simpa using hl) ?_
   rw[dF (by omega),hinv,hw]
   have g1:nat a/2^s/4294967296^t=nat (a.drop t)/2^s:=by
    rw[Nat.div_div_eq_div_mul,Nat.mul_comm,←Nat.div_div_eq_div_mul,nu a t (by omega)]
   have g2:nat (a.drop t)/2^s%4294967296=(wd a (t+1)*4294967296+v.toNat)/2^s%4294967296:=by
    rw[fk a t,fk a (t+1),eZ hv]
    generalize nat (a.drop (t+1+1))=r
    generalize wd a (t+1)=y
    generalize v.toNat=x
    generalize hP:2^s=p at *
    generalize hQ:2^(32-s)=q at *
    have:x+4294967296*(y+4294967296*r)=p*(4294967296*(q*r))+(y*4294967296+x):=by
     have:p*(4294967296*(q*r))=4294967296*(4294967296*r):=by
      rw[Nat.mul_left_comm p 4294967296,←Nat.mul_assoc p q r,e2]
     omega
    rw[this,Nat.mul_add_div hp,Nat.mul_add_mod]
   have g3:=Nat.mod_mul (a:=4294967296^t) (b:=4294967296) (x:=nat a/2^s)
   rw[Nat.pow_succ,g3,g1,g2]
 exact ia.e0 a (s:Int) (by omega) (loop _ 0 _ rfl (by omega) (by simp) (by simp[nat,Nat.mod_one]))
theorem AY{α:Type}(A U C:List α)(t:Nat)(x:α)(ht:t<U.length):(A++(U++C)).set (A.length+t) x=A++(U.set t x++C):=by
 rw[List.set_append_right _ _ (by omega),show A.length+t-A.length=t from by omega,List.set_append_left _ _ ht]
theorem dP{α:Type}(A U C:List α)(t:Nat)(x:α)(h:U[t]? = some x):(A++(U++C))[A.length+t]? = some x:=by
 have ht:=(List.getElem?_eq_some_iff.1 h).1
 rw[List.getElem?_append_right (by omega),show A.length+t-A.length=t from by omega,List.getElem?_append_left ht]
 exact h
abbrev DB(A U C:Words):SC := .pure (((A++(U++C):List UInt32)).map ab).flatten
theorem remove(A U C v:Words)(n off len:Nat)(ho:off=A.length)(hlen:len=U.length)(hU:U.length≤2199023255553)(hn:n<4294967296)(hb:n*nat v<4294967296^U.length)(s6:v.length≤U.length) :
  ∃(U':Words) (bo:Bool),U'.length=U.length∧((bo=false→nat U'+n*nat v=nat U)∧(bo=true→nat U'+n*nat v=nat U+4294967296^U.length)) ∧
   aq bh 117 [.row 100000 off len 1,.pv (aa v),.pv (vU n)] [(100000,DB A U C)] (.pv (vB bo)) [(100000,DB A U' C)]:=by
 subst ho;subst hlen
 have loop:∀(j t carry borrow:Nat) (U0:Words),U.length-t=j→t≤U.length→U0.length=U.length→borrow≤1→carry<4294967296→4294967296^t*carry≤n*nat (v.take t)→(∀q,t≤q→U0[q]? = U[q]?) →
   nat (U0.take t)+n*nat (v.take t)=nat (U.take t)+4294967296^t*(carry+borrow) →
   ∃(U':Words) (bo:Bool),U'.length=U.length∧((bo=false→nat U'+n*nat v=nat U)∧(bo=true→nat U'+n*nat v=nat U+4294967296^U.length)) ∧
    fg.ag A.length U.length v n carry borrow t (A++(U0++C)) [(100000,DB A U C)] (.pv (vB bo)) [(100000,DB A U' C)]:=by
  intro j
  induction j with
  |zero =>
   intro t carry borrow U0 hj ht hl Jv Gj lF _ hinv
   have pG:t=U.length:=by omega
   subst pG
   rw[aC (l:=v) s6] at hinv lF
   rw[aC (by omega),aC (l:=U) (by omega)] at hinv
   have Cj:carry=0:=by
    refine Nat.eq_zero_of_not_pos fun hp => ?_
    have:=Nat.mul_le_mul_left (4294967296^U.length) hp
    omega
   subst Cj
   refine⟨U0,decide ((borrow:Int)=1),hl,?_,?_⟩
   ·by_cases h1:borrow=1
    ·subst h1
     exact⟨fun h=>by simp at h,fun _=>by rw[hinv];simp⟩
    ·have h0:borrow=0:=by omega
     subst h0
     exact⟨fun _=>by rw[hinv];simp,fun h=>by simp at h⟩
   ·have:=fg.cW A.length U.length v n 0 borrow U.length (A++(U0++C)) (sin:=[(100000,DB A U C)]) rfl rfl (by omega)
    have e:((borrow:Int)==1)=decide ((borrow:Int)=1):=by
     by_cases h1:borrow=1
     ·subst h1;rfl
     ·have h0:borrow=0:=by omega
      subst h0;rfl
    rw[e] at this;exact this
  |succ j ih =>
   intro t carry borrow U0 hj ht hl Jv Gj lF dy hinv
   obtain⟨x,hx⟩:∃x,U[t]? = some x:=⟨_,List.getElem?_eq_getElem (by omega)⟩
   have F5:U0[t]? = some x:=by rw[dy t (Nat.le_refl t)];exact hx
   have h1:=jb v t
   have h2:=eM x
   have h3:=pW hn h1
   have e:(2:Nat)^min 32 64=4294967296:=by decide
   generalize hp:n*wd v t=p at *
   obtain⟨lo,CT⟩:=dX ((carry+p)%4294967296) (by omega)
   have hz:∃(d d1 y nb:Nat),((x.toNat:Nat)-(lo.toNat:Nat):Int)%18446744073709551616=(d:Int)∧((d:Nat)-(borrow:Nat):Int)%18446744073709551616=(d1:Int)∧d1%4294967296=y∧d1/2^min 63 64=nb∧nb≤1∧y<4294967296∧y+lo.toNat+borrow=x.toNat+4294967296*nb:=by
    have HO:=eM lo
    refine⟨(((x.toNat:Nat)-(lo.toNat:Nat):Int)%18446744073709551616).toNat,((((x.toNat:Nat)-(lo.toNat:Nat):Int)%18446744073709551616-borrow)%18446744073709551616).toNat,_,_,by omega,by omega,rfl,rfl,?_⟩
    have e:(2:Nat)^min 63 64=9223372036854775808:=by decide
    rw[e]
    generalize lo.toNat=q at *
    generalize x.toNat=r at *
    by_cases Gd:q+borrow≤r
    ·have e1:(((r:Int)-(q:Int))%18446744073709551616-borrow)%18446744073709551616=(r:Int)-q-borrow:=by omega
     rw[e1];omega
    ·have e1:(((r:Int)-(q:Int))%18446744073709551616-borrow)%18446744073709551616=(r:Int)-q-borrow+18446744073709551616:=by omega
     rw[e1];omega
   obtain⟨d,d1,y,nb,g1,g2,g3,g4,g5,g6,g7⟩:=hz
   obtain⟨w,hw⟩:=dX y g6
   have EN:=AY A U0 C t w (by omega)
   have hmul:n*nat (v.take (t+1))=n*nat (v.take t)+4294967296^t*p:=by
    rw[cf v t,Nat.mul_add,←hp,Nat.mul_left_comm]
   have yH:=Nat.div_add_mod (carry+p) 4294967296
   have hA:4294967296^t*carry+4294967296^t*p=4294967296^t*(4294967296*((carry+p)/4294967296))+4294967296^t*lo.toNat:=by
    rw[CT,←Nat.mul_add,←Nat.mul_add,yH]
   have hB:4294967296^t*y+4294967296^t*lo.toNat+4294967296^t*borrow=4294967296^t*x.toNat+4294967296^t*(4294967296*nb):=by
    rw[←Nat.mul_add,←Nat.mul_add,←Nat.mul_add,g7]
   obtain⟨U',bo,q1,q2,q3⟩:=ih (t+1) ((carry+p)/4294967296) nb (U0.set t w) (by omega) (by omega) (by simpa using hl) g5 (by omega)
    (by rw[hmul,Nat.pow_succ,Nat.mul_assoc];omega)
    (fun q hq=>by rw[List.getElem?_set_ne (by omega)];exact dy q (by omega))
    (by
     rw[dF (by omega),hw,hmul,aZ hx,Nat.pow_succ,Nat.mul_assoc,Nat.mul_add 4294967296,Nat.mul_add (4294967296^t)]
     rw[Nat.mul_add (4294967296^t) carry borrow] at hinv
     omega)
   refine⟨U',bo,q1,q2,?_⟩
   refine fg.l10 A.length U.length v n carry borrow t _ (wd v t) p (carry+p) x lo d d1 w nb ((carry+p)/4294967296) rfl (by omega) (word v t) (by rw[hp];omega) (by omega) (dP A U0 C t x F5) CT.symm g1 g2 (by omega) (by simp;omega) g4 (by rw[e]) (by omega) ?_
   rw[EN];exact q3
 obtain⟨U',bo,h1,h2,h3⟩:=loop _ 0 0 0 U rfl (by omega) rfl (by omega) (by omega) (by simp) (fun _ _=>rfl) (by simp[nat])
 exact⟨U',bo,h1,h2,fg.e0 (A++(U++C)) A.length U.length v n h3⟩
theorem back(A U C v:Words)(off len:Nat)(ho:off=A.length)(hlen:len=U.length)(hU:U.length≤2199023255553)(s6:v.length≤U.length) :
  ∃(U':Words) (ca:Nat),U'.length=U.length∧ca≤1∧nat U'+4294967296^U.length*ca=nat U+nat v ∧
   aq bh 118 [.row 100000 off len 1,.pv (aa v)] [(100000,DB A U C)] (.pv (.aY [])) [(100000,DB A U' C)]:=by
 subst ho;subst hlen
 have loop:∀(j t carry:Nat) (U0:Words),U.length-t=j→t≤U.length→U0.length=U.length→carry≤1→(∀q,t≤q→U0[q]? = U[q]?) →
   nat (U0.take t)+4294967296^t*carry=nat (U.take t)+nat (v.take t) →
   ∃(U':Words) (ca:Nat),U'.length=U.length∧ca≤1∧nat U'+4294967296^U.length*ca=nat U+nat v ∧
    hZ.ag A.length U.length v carry t (A++(U0++C)) [(100000,DB A U C)] (.pv (.aY [])) [(100000,DB A U' C)]:=by
  intro j
  induction j with
  |zero =>
   intro t carry U0 hj ht hl Gj _ hinv
   have pG:t=U.length:=by omega
   subst pG
   rw[aC (l:=v) s6] at hinv
   rw[aC (by omega),aC (l:=U) (by omega)] at hinv
   exact⟨U0,carry,hl,Gj,hinv,hZ.cW A.length U.length v carry U.length (A++(U0++C)) (sin:=[(100000,DB A U C)]) rfl rfl (by omega)⟩
  |succ j ih =>
   intro t carry U0 hj ht hl Gj dy hinv
   obtain⟨x,hx⟩:∃x,U[t]? = some x:=⟨_,List.getElem?_eq_getElem (by omega)⟩
   have F5:U0[t]? = some x:=by rw[dy t (Nat.le_refl t)];exact hx
   have h1:=jb v t
   have h2:=eM x
   have e:(2:Nat)^min 32 64=4294967296:=by decide
   obtain⟨w,hw⟩:=dX ((carry+(x.toNat+wd v t))%4294967296) (by omega)
   have yH:=Nat.div_add_mod (carry+(x.toNat+wd v t)) 4294967296
   have hA:4294967296^t*carry+4294967296^t*x.toNat+4294967296^t*wd v t=4294967296^t*(4294967296*((carry+(x.toNat+wd v t))/4294967296))+4294967296^t*w.toNat:=by
    rw[hw,←Nat.mul_add,←Nat.mul_add,←Nat.mul_add,yH];congr 1;omega
   obtain⟨U',ca,q1,q2,q3,q4⟩:=ih (t+1) ((carry+(x.toNat+wd v t))/4294967296) (U0.set t w) (by omega) (by omega) (by simpa using hl) (by omega)
    (fun q hq=>by rw[List.getElem?_set_ne (by omega)];exact dy q (by omega))
    (by rw[dF (by omega),cf v t,aZ hx,Nat.pow_succ,Nat.mul_assoc];omega)
   refine⟨U',ca,q1,q2,q3,?_⟩
   refine hZ.l10 A.length U.length v carry t _ x (wd v t) (x.toNat+wd v t) (carry+(x.toNat+wd v t)) w _ rfl (by omega) (dP A U0 C t x F5) (word v t) (by omega) (by omega) hw.symm (by simp;omega) (by rw[e]) (by omega) ?_
   rw[AY A U0 C t w (by omega)];exact q4
 obtain⟨U',ca,h1,h2,h3,h4⟩:=loop _ 0 0 U rfl (by omega) rfl (by omega) (fun _ _=>rfl) (by simp[nat])
 exact⟨U',ca,h1,h2,h3,hZ.e0 (A++(U++C)) A.length U.length v h4⟩
end ct
end Go.Proofs.YtnjhplhbmapclaaGreatDoor.Sym
