/- The comparison of algebraic numbers is a total order that agrees with the comparison with fractions. The law AlgebraicOrder returns true for every input, with the tables of numerals of the Go library that the row lists as they are laid. -/
import Derived.Test.YtllmkadmohkbfaaGreatDoorYObs
import Derived.Deep.Slices
import Derived.WideKeyArgs
import Derived.RowKit3
import Derived.WalkKit
import Derived.ProofKit
import Derived.OpenShut
import Derived.SizedLaws
import Derived.Test.YtllmkadmohkbfaaGreatDoorProg
namespace Go.Proofs.YtllmkadmohkbfaaGreatDoor.Sym
open Go Go.RowKit Go.ChangeShapes Go.WideShapes
set_option linter.unusedVariables false
abbrev Old(w:World)(b:Nat):Prop:=b<w.heap.size
def rC(P:Program)(t:TypeId){α:Type}(f:α→List PV)(Q:α→Prop):Prop :=
 ∀{H:Type} (enc:TypeId×Value→H) (w:World) (base:Nat) (spare:Nat→Bool) (held:Bool) (fuel:Nat) (cs:List Value) (x:DataW H×List MemPlace),
  DataW.trod enc P w base spare held fuel t cs=some x→(∀n∈x.1.weights P t,n≤reachBytes)→∃a,bQ (Old w) w (f a) cs∧Q a
theorem kR{I:Nat→Prop}{w:World}{a b:List PV}{us vs:List Value}(h:bQ I w a us)(k:bQ I w b vs):bQ I w (a++b) (us++vs):=by
 refine⟨by rw[List.length_append,List.length_append,h.1,k.1],fun j c u hc hu => ?_⟩
 by_cases hj:j<a.length
 ·rw[List.getElem?_append_left hj] at hc
  rw[List.getElem?_append_left (by rw[←h.1];exact hj)] at hu
  exact h.2 j c u hc hu
 ·rw[List.getElem?_append_right (by omega)] at hc
  rw[List.getElem?_append_right (by rw[←h.1];omega)] at hu
  rw[h.1] at hc
  exact k.2 _ c u hc hu
theorem mj{I:Nat→Prop}{w:World}{p:PV}{v:Value}(h1:p.one=true)(h:Rd I w p v):bQ I w [p] [v]:=by
 refine⟨rfl,fun j c u hc hu => ?_⟩
 cases j with
 |zero=>simp at hc hu;subst hc hu;exact⟨h1,h⟩
 |succ j=>simp at hc
theorem IH{P:Program}{t:TypeId}{k:IntKind}(ht:P.underlying t=some (.int k)):rC P t (fun n:Int=>[.int k n]) (fun n=>(Lit.int k n).wf=true):=by
 intro H enc w base spare held fuel cs x h _
 obtain⟨n,rfl,_,hw⟩:=DataW.trod_int ht h
 exact⟨n,mj rfl (.int _ _),hw⟩
theorem Gl{P:Program}{t:TypeId}(ht:P.underlying t=some .bool):rC P t (fun b:Bool=>[.bool b]) (fun _=>True):=by
 intro H enc w base spare held fuel cs x h _
 obtain⟨b,rfl,_⟩:=DataW.trod_bool ht h
 exact⟨b,mj rfl (.bool _),trivial⟩
theorem Ki{w:World}{a:Addr}{v:Value}(h:w.cell? a=some v):a.spot=none∧a.block<w.heap.size:=by
 unfold World.cell? at h
 split at h
 ·rename_i c q r hc
  refine⟨?_,(Array.getElem?_eq_some_iff.1 hc).1⟩
  cases hs:a.spot with
  |none=>rfl
  |some _=>rw[hs] at h;simp at h
 ·cases h
theorem Ex(a:Addr):a.add 0=a:=rfl
theorem BJ(b o i:Nat):(⟨b,o,none⟩:Addr).add i=⟨b,o+i,none⟩:=by
 unfold Addr.add
 split
 ·rename_i h;subst h;rfl
 ·rfl
theorem xp{H:Type}{P:Program}{e:TypeId} : ∀{l:List (DataW H)} {d:DataW H} {n:Nat},d∈l→n∈d.weights P e→n∈DataW.weightsAll P e l
 |a::r,d,n,hd,hn=>by
  simp only[DataW.weightsAll,List.mem_append]
  rcases List.mem_cons.1 hd with h|h
  ·subst h;exact Or.inl hn
  ·exact Or.inr (xp h hn)
theorem xq{P:Program}{t e:TypeId}{α:Type}{f:α→List PV}{Q:α→Prop}{s sb:Nat}(ht:P.underlying t=some (.slice e))(hs:P.cellsOf e=s)(Jb:0<s)(XH:P.bytesOf e=sb)(hf:∀a,(f a).length=s)(ho:rC P e f Q) :
  rC P t (fun l:List α=>[.list (l.map f)]) (fun l=>l.length*sb≤reachBytes∧∀a∈l,Q a):=by
 intro H enc w base spare held fuel cs x h BK
 rcases Deep.open_slice ht h with ⟨rfl,_⟩|⟨a,len,cap,m,n,D,Pl,rfl,hb,hl,hm,XI,NY,hx⟩
 ·exact⟨[],mj rfl (.nil _ _),by simp,by simp⟩
 rw[hs] at hx
 have YQ:len≤m:=by rw[XI];split<;>omega
 have CB:∀i,i<len→∃(y:α×List Value),w.cells? base (a.add (i*s)) s=some y.2∧bQ (Old w) w (f y.1) y.2∧Q y.1:=by
  intro i hi
  obtain⟨Ti,h1,h2⟩:=hx i (by omega)
  obtain⟨y,h3,h4⟩:=ho enc w base spare held n Ti _ h2 (fun q hq=>BK q (by
   rw[NY]
   simp only[DataW.weights,ht,List.mem_cons,List.mem_append]
   exact Or.inr (Or.inl (xp (List.mem_map.2 ⟨i,List.mem_range.2 hi,rfl⟩) hq))))
  exact⟨(y,Ti),h1,h3,h4⟩
 by_cases h0:len=0
 ·subst h0
  exact⟨[],mj rfl (.nil _ _),by simp,by simp⟩
 have df:Nonempty (α×List Value):=⟨(CB 0 (by omega)).choose⟩
 have:Inhabited (α×List Value):=Classical.inhabited_of_nonempty df
 obtain⟨Y,hY⟩:=Deep.choose_lt CB
 obtain⟨c0,_⟩:=hY 0 (by omega)
 obtain⟨_,YR,XJ⟩:=World.cells?_some c0
 have cg:=XJ 0 Jb
 obtain⟨v0,Uj⟩:∃v,(Y 0).2[0]? = some v:=⟨_,List.getElem?_eq_getElem (by omega)⟩
 rw[Uj] at cg
 rw[Nat.zero_mul,Ex,Ex] at cg
 obtain⟨LZ,Pd⟩:=Ki cg
 obtain⟨b,o,sp⟩:=a
 simp only at LZ Pd
 subst LZ
 have Kj:∀i j:Nat,i<len→j<s→w.cell? ⟨b,o+(i*s+j),none⟩=(Y i).2[j]? := by
  intro i j hi hj
  obtain⟨c1,_⟩:=hY i hi
  obtain⟨_,_,g⟩:=World.cells?_some c1
  have:=g j hj
  rw[BJ,BJ,Nat.add_assoc] at this
  exact this
 refine⟨(List.range len).map (fun i=>(Y i).1),mj rfl ?_,?_,?_⟩
 ·have e:len=(((List.range len).map (fun i=>(Y i).1)).map f).length:=by simp
  have wa:∀(i:Nat) row,(((List.range len).map (fun i=>(Y i).1)).map f)[i]? = some row→i<len∧row=f (Y i).1:=by
   intro i row hr
   have hi:i<len:=by have:=(List.getElem?_eq_some_iff.1 hr).1;rw[←e] at this;exact this
   refine⟨hi,?_⟩
   simp[List.getElem?_map,List.getElem?_range hi] at hr
   exact hr.symm
  have key:Rd (Old w) w (.list (((List.range len).map (fun i=>(Y i).1)).map f)) (.slice (some ⟨b,o,none⟩) (((List.range len).map (fun i=>(Y i).1)).map f).length cap):=by
   refine Rd.list _ b o cap s (fun i j=>((Y i).2[j]?).getD .nilIface) (by rw[←e];exact hl) Pd ?_ ?_ ?_
   ·intro i row hr
    obtain⟨_,rfl⟩:=wa i row hr
    exact hf _
   ·intro i j row x hr JU
    obtain⟨hi,rfl⟩:=wa i row hr
    obtain⟨c1,r1,_⟩:=hY i hi
    have hj:j<s:=by rw[←hf (Y i).1];exact(List.getElem?_eq_some_iff.1 JU).1
    have hlen:=r1.1
    obtain⟨u,hu⟩:∃u,(Y i).2[j]? = some u:=⟨_,List.getElem?_eq_getElem (by rw[←hlen,hf];exact hj)⟩
    refine⟨(r1.2 j x u JU hu).1,?_⟩
    rw[Kj i j hi hj,hu];rfl
   ·intro i j row x hr JU
    obtain⟨hi,rfl⟩:=wa i row hr
    obtain⟨c1,r1,_⟩:=hY i hi
    have hj:j<s:=by rw[←hf (Y i).1];exact(List.getElem?_eq_some_iff.1 JU).1
    have hlen:=r1.1
    obtain⟨u,hu⟩:∃u,(Y i).2[j]? = some u:=⟨_,List.getElem?_eq_getElem (by rw[←hlen,hf];exact hj)⟩
    rw[hu]
    exact(r1.2 j x u JU hu).2
  rw[←e] at key
  exact key
 ·have:=BK ((len+(m-len))*sb) (by
   rw[NY]
   simp only[DataW.weights,ht,XH,List.length_map,List.length_range,List.mem_cons,true_or])
  rw[List.length_map,List.length_range]
  exact Nat.le_trans (Nat.mul_le_mul_right _ (by omega)) this
 ·intro y hy
  obtain⟨i,hi,rfl⟩:=List.mem_map.1 hy
  exact(hY i (List.mem_range.1 hi)).2.2
theorem qk{P:Program}{t:TypeId}{fs:Array Field}(ht:P.underlying t=some (.struct fs)){H:Type}{enc:TypeId×Value→H}{w:World}{base:Nat}{spare:Nat→Bool}{held:Bool}{fuel:Nat}{cs:List Value}{x:DataW H×List MemPlace}
  (h:DataW.trod enc P w base spare held fuel t cs=some x):cs.length=P.cellsOf t:=(DataW.trod_struct ht h).choose_spec.choose_spec.2.2.1
theorem iO{P:Program}{t u:TypeId}{fs:Array Field}{α:Type}{f:α→List PV}{Q:α→Prop}(ht:P.underlying t=some (.struct fs)){H:Type}{enc:TypeId×Value→H}{w:World}{base:Nat}{spare:Nat→Bool}{held:Bool}{fuel:Nat}{cs:List Value}{x:DataW H×List MemPlace}
  (h:DataW.trod enc P w base spare held fuel t cs=some x) (BK:∀n∈x.1.weights P t,n≤reachBytes) (i off s:Nat) (hi:(fs[i]?).map (fun f=>(f.type,f.offset))=some (u,off)) (hs:P.cellsOf u=s) (ho:rC P u f Q):∃a,bQ (Old w) w (f a) ((cs.drop off).take s)∧Q a:=by
 obtain⟨xs,n,_,hx,hl,hlen,hf⟩:=DataW.trod_struct ht h
 cases hfi:fs[i]? with
 |none=>rw[hfi] at hi;cases hi
 |some fd =>
  rw[hfi] at hi
  injection hi with hi
  injection hi with e1 e2
  have h1:=hf i fd hfi
  have h2:i<xs.length:=by rw[hlen];exact(Array.getElem?_eq_some_iff.1 hfi).1
  rw[List.getElem?_eq_getElem h2,e1,e2,hs] at h1
  refine ho enc w base spare held n _ _ h1 (fun q hq=>BK q ?_)
  rw[hx]
  simp only[DataW.weights,ht]
  refine DataW.weights_mem_each (j:=i) (t:=u) (d:=xs[i].1) ?_ ?_ q hq
  ·rw[List.getElem?_map,Array.getElem?_toList,hfi]
   exact congrArg some e1
  ·rw[List.getElem?_map,List.getElem?_eq_getElem h2];rfl
def rD:Option TypeDesc→Option (List (TypeId×Nat))
 |some (.struct fs)=>some (fs.toList.map fun f=>(f.type,f.offset))
 |_=>none
theorem nc{u:Option TypeDesc}{l:List (TypeId×Nat)}(h:rD u=some l):∃fs,u=some (.struct fs)∧∀i:Nat,(fs[i]?).map (fun f=>(f.type,f.offset))=l[i]? := by
 unfold rD at h
 split at h
 ·rename_i fs
  injection h with h
  refine⟨fs,rfl,fun i => ?_⟩
  rw[←h,List.getElem?_map,Array.getElem?_toList]
 ·cases h
theorem wC{P:Program}{t:TypeId}{fs:Array Field}{w:World}{r:Reach}{b0:Nat}{v:Value}{cs:List PV}(ht:P.underlying t=some (.struct fs))(hv:Value.okWide P w r b0 t v)(h:bQ (Old w) w cs v.cells.toList):Rd (Old w) w (.agg cs) v:=by
 obtain⟨us,rfl,_⟩:=okWide_struct ht hv
 have h:bQ (Old w) w cs us.toList:=h
 refine .agg cs us (by rw[h.1];simp) (fun j c hc => ?_) (fun j c u hc hu=>(h.2 j c u hc (by simpa using hu)).2)
 obtain⟨u,hu⟩:∃u,us.toList[j]? = some u:=⟨_,List.getElem?_eq_getElem (by rw[←h.1];exact(List.getElem?_eq_some_iff.1 hc).1)⟩
 exact(h.2 j c u hc hu).1
theorem Gm{w w':World}{may:MemPlace→Prop}(h:kx (fun _=>False) w w'):w.keptBut w' may:=by
 refine⟨h.os,h.output,fun i hi => ?_⟩
 have e:=h.block i hi (fun h=>h)
 rw[e]
 cases w.heap[i]? with
 |none=>rfl
 |some o=>cases o<;>simp
theorem CS{w w':World}(h:kx (fun _=>False) w w'){a:Addr}(ha:a.block<w.heap.size):w'.frozen? a=w.frozen? a:=by
 have e:=h.block _ ha (fun h=>h)
 unfold World.frozen?
 rw[e]
theorem Gn{w w':World}(h:kx (fun _=>False) w w'){p:MemPlace}(hp:p.block<w.heap.size):w.sameAt w' p:=by
 cases p with
 |cell b off =>
  have e:=h.block b hp (fun h=>h)
  show w'.cell? _=w.cell? _
  simp[World.cell?,e]
 |map b=>exact h.block b hp (fun h=>h)
section
variable {H:Type} {enc:TypeId×Value→H} {P:Program}
theorem II{f:Func}{s:ChangeSpec}{apart fresh handsOn again:Bool}{W W':World}{args:Array Value}{ds gs:List (DataW H)}{before:List MemPlace}{tb:TypeId}
  (hW:DataW.Whole enc P f.params.toList s.vars apart W args.toList ds gs before) (hk:kx (fun _=>False) W W')
  (N5:s.vars=[]) (S1:f.resultTypes = #[tb]) (Wd:P.underlying tb=some .bool)
  (np:(s.fn H (ds++gs)).results=[.lit (.bool true)]) (jz:(s.fn H (ds++gs)).args=ds) (XK:(s.fn H (ds++gs)).vars=[])
  (hl:laidOutB P=true) (hr:∀t∈f.params.toList,P.readableRec t=true∧t<P.types.size):s.post enc P f apart fresh handsOn again W args (.bool true) W':=by
 have bh:=hW.lt
 obtain⟨p,q,hA,hV,N2,hz,hn⟩:=hW
 have hW:DataW.Whole enc P f.params.toList s.vars apart W args.toList ds gs before:=⟨p,q,hA,hV,N2,hz,hn⟩
 rw[N5] at hV
 obtain⟨AW,mG⟩:=trodVars_none hV
 subst mG
 have S3:before=p:=by rw[N2];simp
 have Pe:∀(sp:Nat→Bool),(∀x∈before,sp x.block=true)→DataW.TrodAll enc P W' 0 sp true f.params.toList args.toList ds p:=by
  intro sp LZ
  have key:∀{ts:List TypeId} {vs:List Value} {es:List (DataW H)} {ps:List MemPlace},(∀t∈ts,P.readableRec t=true∧t<P.types.size)→(∀x∈ps,x∈before)→DataW.TrodAll enc P W 0 (fun _=>true) true ts vs es ps→DataW.TrodAll enc P W' 0 sp true ts vs es ps:=by
   intro ts
   induction ts with
   |nil =>
    intro vs es ps _ _ h
    obtain⟨rfl,rfl,rfl⟩:=trodAll_nil h
    exact trodAll_mk0
   |cons t ts ih =>
    intro vs es ps QP na h
    obtain⟨v,VY,d,YS,a,b,rfl,rfl,rfl,h1,h2⟩:=trodAll_cons h
    refine⟨a,b,WideElems.Trod_stays hl (QP t (List.mem_cons_self ..)).1 (QP t (List.mem_cons_self ..)).2 h1 (fun x hx=>Gn hk (bh x (na x (List.mem_append_left _ hx)))) (fun x hx=>LZ x (na x (List.mem_append_left _ hx))),ih (fun u hu=>QP u (List.mem_cons_of_mem _ hu)) (fun x hx=>na x (List.mem_append_right _ hx)) h2,rfl⟩
  exact key hr (fun x hx=>by rw[S3];exact hx) hA
 have hold:∀x∈before,(fun b=>decide (b<W.heap.size)) x.block=true:=fun x hx=>by simpa using bh x hx
 have Hh:∀(b:Nat) (sp:Nat→Bool) (hd:Bool),DataW.TrodAll enc P W' b sp hd f.resultTypes.toList ((Value.bool true).resultList f.resultTypes.size) (s.fn H (ds++gs)).results []:=by
  intro b sp hd
  rw[S1,np]
  exact trodAll_mk1 (shut_bool Wd true)
 have DO:∀sp:Nat→Bool,DataW.TrodVars enc P W' sp s.vars (s.fn H (ds++gs)).vars []:=by
  intro sp;rw[N5,XK];rfl
 have Kk:∀(sp:Nat→Bool),(∀x∈before,sp x.block=true)→DataW.TrodAll enc P W' 0 sp true f.params.toList args.toList (s.fn H (ds++gs)).args p:=by
  intro sp LZ
  rw[jz];exact Pe sp LZ
 refine⟨ds,gs,before,[],p,[],hW,Hh _ _ _,Kk _ hold,DO _,Gm hk,fun _ => ?_⟩
 refine⟨ok_one S1 rfl (okWide_bool_mk Wd true),_,_,([]++p)++[],⟨[]++p,[],trodAll_append (Kk _ (fun _ _=>rfl)) (Hh _ _ _),DO _,rfl,?_,?_⟩,?_⟩
 ·intro b off hp
  have We:MemPlace.cell b off∈before:=by rw[S3];simpa using hp
  rw[CS hk (bh _ We)]
  exact hz b off We
 ·intro ha
  have:=hn ha
  rw[S3] at this
  simpa using this
 ·intro x hx _
  rw[S3]
  simpa using hx
end
end Go.Proofs.YtllmkadmohkbfaaGreatDoor.Sym
namespace Go.Proofs.YtllmkadmohkbfaaGreatDoor.Sym
open Go
structure af where
 neg:Bool
 num:List UInt32
 den:List UInt32
def af.cells(x:af):List PV:=[(vB x.neg),(aa x.num),(aa x.den)]
def af.pv(x:af):PV := .agg x.cells
theorem aZ:Sz af.cells 3:=fun _=>rfl
abbrev RK:=List af
abbrev ae(p:RK):PV := .list (p.map af.cells)
structure aj where
 lo:af
 hi:af
def aj.cells(x:aj):List PV:=[(vB x.lo.neg),(aa x.lo.num),(aa x.lo.den),(vB x.hi.neg),(aa x.hi.num),(aa x.hi.den)]
def aj.pv(x:aj):PV := .agg x.cells
theorem pC:Sz aj.cells 6:=fun _=>rfl
structure aQ where
 p:List af
 rV:aj
def aQ.cells(x:aQ):List PV:=[(ae x.p),(vB x.rV.lo.neg),(aa x.rV.lo.num),(aa x.rV.lo.den),(vB x.rV.hi.neg),(aa x.rV.hi.num),(aa x.rV.hi.den)]
def aQ.pv(x:aQ):PV := .agg x.cells
theorem oo:Sz aQ.cells 7:=fun _=>rfl
structure bn where
 roots:List (List af)
def bn.cells(x:bn):List PV:=[(cT (aC af.cells) x.roots)]
def bn.pv(x:bn):PV := .agg x.cells
structure au where
 neg:Bool
 ct:List UInt32
def au.cells(x:au):List PV:=[(vB x.neg),(aa x.ct)]
def au.pv(x:au):PV := .agg x.cells
@[reducible] noncomputable def bp:Program:=Tryz.prog
def mU:j0:=[(2,⟨.int .i64,1,8,false,[.int .i64 0]⟩),
 (3,⟨.int .i64,1,8,false,[.int .i64 0]⟩),
 (4,⟨.bool,1,1,false,[(vB false)]⟩),
 (5,⟨.int .u8,1,1,false,[.int .u8 0]⟩),
 (6,⟨.int .u8,1,1,false,[.int .u8 0]⟩),
 (7,⟨.struct [(0,1,false),(1,1,false),(2,1,false),(3,1,false)],4,24,true,[.int .i64 0,.int .i64 0,(vB false),.int .u8 0]⟩),
 (8,⟨.struct [(0,1,false),(1,1,false),(2,1,false),(3,1,false)],4,24,true,[.int .i64 0,.int .i64 0,(vB false),.int .u8 0]⟩),
 (9,⟨.str,1,16,false,[.str ByteArray.empty]⟩),
 (10,⟨.str,1,16,false,[.str ByteArray.empty]⟩),
 (11,⟨.str,1,16,false,[.str ByteArray.empty]⟩),
 (12,⟨.int .u64,1,8,false,[.int .u64 0]⟩),
 (13,⟨.struct [(0,1,false),(1,1,false)],2,24,true,[.str ByteArray.empty,.int .u64 0]⟩),
 (14,⟨.struct [(0,1,false),(1,1,false)],2,24,true,[.str ByteArray.empty,.int .u64 0]⟩),
 (20,⟨.iface,1,16,false,[.az]⟩),
 (21,⟨.int .i32,1,4,false,[.int .i32 0]⟩),
 (22,⟨.slice 26,1,24,false,[.dF]⟩),
 (23,⟨.slice 26,1,24,false,[.dF]⟩),
 (24,⟨.slice 119,1,24,false,[.dF]⟩),
 (25,⟨.struct [(0,1,false),(1,1,false),(2,1,false)],3,56,true,[(vB false),.dF,.dF]⟩),
 (26,⟨.struct [(0,1,false),(1,1,false),(2,1,false)],3,56,true,[(vB false),.dF,.dF]⟩),
 (27,⟨.struct [(0,3,true),(3,3,true)],6,112,true,[(vB false),.dF,.dF,(vB false),.dF,.dF]⟩),
 (28,⟨.struct [(0,3,true),(3,3,true)],6,112,true,[(vB false),.dF,.dF,(vB false),.dF,.dF]⟩),
 (29,⟨.struct [(0,1,false),(1,6,true)],7,136,true,[.dF,(vB false),.dF,.dF,(vB false),.dF,.dF]⟩),
 (30,⟨.struct [(0,1,false),(1,6,true)],7,136,true,[.dF,(vB false),.dF,.dF,(vB false),.dF,.dF]⟩),
 (33,⟨.iface,1,16,false,[.az]⟩),
 (34,⟨.iface,1,16,false,[.az]⟩),
 (48,⟨.slice 30,1,24,false,[.dF]⟩),
 (67,⟨.int .i64,1,8,false,[.int .i64 0]⟩),
 (69,⟨.slice 34,1,24,false,[.dF]⟩),
 (71,⟨.slice 74,1,24,false,[.dF]⟩),
 (72,⟨.struct [(0,1,false)],1,24,true,[.dF]⟩),
 (73,⟨.struct [(0,1,false)],1,24,true,[.dF]⟩),
 (74,⟨.slice 26,1,24,false,[.dF]⟩),
 (107,⟨.struct [(0,1,false),(1,1,false)],2,32,true,[(vB false),.dF]⟩),
 (108,⟨.struct [(0,1,false),(1,1,false)],2,32,true,[(vB false),.dF]⟩),
 (119,⟨.int .u32,1,4,false,[.int .u32 0]⟩),
 (120,⟨.slice 28,1,24,false,[.dF]⟩),
 (166,⟨.slice 3,1,24,false,[.dF]⟩),
 (178,⟨.int .u64,1,8,false,[.int .u64 0]⟩),
 (179,⟨.int .u64,1,8,false,[.int .u64 0]⟩),
 (186,⟨.slice 23,1,24,false,[.dF]⟩),
 (224,⟨.slice 9,1,24,false,[.dF]⟩),
 (256,⟨.slice 5,1,24,false,[.dF]⟩),
 (296,⟨.int .u8,1,1,false,[.int .u8 0]⟩),
 (297,⟨.int .u8,1,1,false,[.int .u8 0]⟩),
 (299,⟨.int .i32,1,4,false,[.int .i32 0]⟩),
 (300,⟨.int .i32,1,4,false,[.int .i32 0]⟩)]
theorem xr:mC bp mU:=mC.of (by kernel_rfl)
theorem mixed:bp.follows .mixedOrders=true:=by kernel_rfl
abbrev Cp:=eV bp
abbrev Ws:=List UInt32
abbrev Rs:=List af
abbrev TE.a:TE := .auto
abbrev TE.t:TE := .dec true
abbrev TE.f:TE := .dec false
abbrev TE.q:TE := .aV []
abbrev TE.h(n:Nat)(x:Hint):TE := .aV (List.replicate n .none++[x])
abbrev Hint.o:Hint := .none
section
variable {fn:Func} {K K':List eg} {s s':St} {r:PV} {sin sout:aS} {rx:EV} {f:FuncId} {args:List PV} {IJ:List EV} {A:Prop}
theorem lG(n:Nat)(ns:List Nat)(tr:List TE)(hA:A)(h:L bp fn K' s' r)(aq:tU ns (run bp mU fn n K s tr)=some (K',s',A):=by kernel_rfl):L bp fn K s r:=L.go mixed xr hA aq h
theorem lD(n:Nat)(ns:List Nat)(tr:List TE)(hA:A)(aq:CP ns (run bp mU fn n K s tr)=some (r,A):=by kernel_rfl):L bp fn K s r:=L.done mixed xr hA aq
theorem eG(hf:bp.funcs[f]? = some fn)(n:Nat)(ns:List Nat)(tr:List TE)(hA:A)(h:L bp fn K' s' r)(nt:Gi fn (args.map EV.pv).length []=true:=by kernel_rfl)(aq:tU ns (run bp mU fn n [.code (ay fn)] ⟨kQ 0 (args.map EV.pv),[]⟩ tr)=some (K',s',A):=by kernel_rfl):eV bp f args r:=eV.QO hf nt (L.go mixed xr hA aq h)
theorem eD(hf:bp.funcs[f]? = some fn)(n:Nat)(ns:List Nat)(tr:List TE)(hA:A)(nt:Gi fn (args.map EV.pv).length []=true:=by kernel_rfl)(aq:CP ns (run bp mU fn n [.code (ay fn)] ⟨kQ 0 (args.map EV.pv),[]⟩ tr)=some (r,A):=by kernel_rfl):eV bp f args r:=eV.QO hf nt (L.done mixed xr hA aq)
theorem IK(n:Nat)(ns:List Nat)(tr:List TE)(hs:sin.all (fun p=>Nat.ble fn.ntmps p.1)=true)(hA:A)(h:LX bp fn K' s' sin rx sout)(aq:tU ns (run bp mU fn n K s tr)=some (K',s',A):=by kernel_rfl):LX bp fn K s sin rx sout:=LX.go mixed xr hs hA aq h
theorem DP(n:Nat)(ns:List Nat)(tr:List TE)(hs:sin.all (fun p=>Nat.ble fn.ntmps p.1)=true)(hi:sin.all (fun p=>uC p.1||(aS.get sout p.1).isSome)=true)(hA:A)(aq:BH ns [] (run bp mU fn n K s tr)=some (rx,sout,A):=by kernel_rfl):LX bp fn K s sin rx sout:=LX.RC mixed xr hs hi hA aq
theorem Kl(hf:bp.funcs[f]? = some fn)(n:Nat)(ns:List Nat)(tr:List TE)(hA:A)(h:LX bp fn K' s' sin rx sout)(nt:Gi fn IJ.length sin=true:=by kernel_rfl)(hs:sin.all (fun p=>Nat.ble fn.ntmps p.1)=true:=by rfl)(aq:tU ns (run bp mU fn n [.code (ay fn)] ⟨kQ 0 IJ,sin⟩ tr)=some (K',s',A):=by kernel_rfl):av bp f IJ sin rx sout:=av.QO hf nt (LX.go mixed xr hs hA aq h)
theorem IL(hf:bp.funcs[f]? = some fn)(n:Nat)(ns:List Nat)(tr:List TE)(hA:A)(nt:Gi fn IJ.length sin=true:=by kernel_rfl)(hs:sin.all (fun p=>Nat.ble fn.ntmps p.1)=true:=by rfl)(aq:BH ns sin (run bp mU fn n [.code (ay fn)] ⟨kQ 0 IJ,sin⟩ tr)=some (rx,sout,A):=by kernel_rfl):av bp f IJ sin rx sout:=av.QO hf nt (LX.done mixed xr hs hA aq)
end
theorem y1{p0:Prop}(hZ:p0):p0∧True:=⟨hZ,trivial⟩
theorem y2{p0 p1:Prop}(hZ:p0)(jA:p1):p0∧p1∧True:=⟨hZ,jA,trivial⟩
theorem y3{p0 p1 p2:Prop}(hZ:p0)(jA:p1)(jP:p2):p0∧p1∧p2∧True:=⟨hZ,jA,jP,trivial⟩
theorem y4{p0 p1 p2 p3:Prop}(hZ:p0)(jA:p1)(jP:p2)(kj:p3):p0∧p1∧p2∧p3∧True:=⟨hZ,jA,jP,kj,trivial⟩
theorem y5{p0 p1 p2 p3 p4:Prop}(hZ:p0)(jA:p1)(jP:p2)(kj:p3)(kH:p4):p0∧p1∧p2∧p3∧p4∧True:=⟨hZ,jA,jP,kj,kH,trivial⟩
theorem y6{p0 p1 p2 p3 p4 p5:Prop}(hZ:p0)(jA:p1)(jP:p2)(kj:p3)(kH:p4)(kS:p5):p0∧p1∧p2∧p3∧p4∧p5∧True:=⟨hZ,jA,jP,kj,kH,kS,trivial⟩
theorem y7{p0 p1 p2 p3 p4 p5 p6:Prop}(hZ:p0)(jA:p1)(jP:p2)(kj:p3)(kH:p4)(kS:p5)(lF:p6):p0∧p1∧p2∧p3∧p4∧p5∧p6∧True:=⟨hZ,jA,jP,kj,kH,kS,lF,trivial⟩
theorem y8{p0 p1 p2 p3 p4 p5 p6 p7:Prop}(hZ:p0)(jA:p1)(jP:p2)(kj:p3)(kH:p4)(kS:p5)(lF:p6)(lS:p7):p0∧p1∧p2∧p3∧p4∧p5∧p6∧p7∧True:=⟨hZ,jA,jP,kj,kH,kS,lF,lS,trivial⟩
theorem y9{p0 p1 p2 p3 p4 p5 p6 p7 p8:Prop}(hZ:p0)(jA:p1)(jP:p2)(kj:p3)(kH:p4)(kS:p5)(lF:p6)(lS:p7)(ml:p8):p0∧p1∧p2∧p3∧p4∧p5∧p6∧p7∧p8∧True:=⟨hZ,jA,jP,kj,kH,kS,lF,lS,ml,trivial⟩
theorem FA{p0 p1 p2 p3 p4 p5 p6 p7 p8 p9:Prop}(hZ:p0)(jA:p1)(jP:p2)(kj:p3)(kH:p4)(kS:p5)(lF:p6)(lS:p7)(ml:p8)(mK:p9):p0∧p1∧p2∧p3∧p4∧p5∧p6∧p7∧p8∧p9∧True:=⟨hZ,jA,jP,kj,kH,kS,lF,lS,ml,mK,trivial⟩
theorem BL{p0 p1 p2 p3 p4 p5 p6 p7 p8 p9 iE:Prop}(hZ:p0)(jA:p1)(jP:p2)(kj:p3)(kH:p4)(kS:p5)(lF:p6)(lS:p7)(ml:p8)(mK:p9)(fe:iE):p0∧p1∧p2∧p3∧p4∧p5∧p6∧p7∧p8∧p9∧iE∧True:=⟨hZ,jA,jP,kj,kH,kS,lF,lS,ml,mK,fe,trivial⟩
theorem Jj{p0 p1 p2 p3 p4 p5 p6 p7 p8 p9 iE iP:Prop}(hZ:p0)(jA:p1)(jP:p2)(kj:p3)(kH:p4)(kS:p5)(lF:p6)(lS:p7)(ml:p8)(mK:p9)(fe:iE)(fy:iP):p0∧p1∧p2∧p3∧p4∧p5∧p6∧p7∧p8∧p9∧iE∧iP∧True:=⟨hZ,jA,jP,kj,kH,kS,lF,lS,ml,mK,fe,fy,trivial⟩
theorem Ht{p0 p1 p2 p3 p4 p5 p6 p7 p8 p9 iE iP jB:Prop}(hZ:p0)(jA:p1)(jP:p2)(kj:p3)(kH:p4)(kS:p5)(lF:p6)(lS:p7)(ml:p8)(mK:p9)(fe:iE)(fy:iP)(fL:jB):p0∧p1∧p2∧p3∧p4∧p5∧p6∧p7∧p8∧p9∧iE∧iP∧jB∧True:=⟨hZ,jA,jP,kj,kH,kS,lF,lS,ml,mK,fe,fy,fL,trivial⟩
theorem Km{p0 p1 p2 p3 p4 p5 p6 p7 p8 p9 iE iP jB jQ:Prop}(hZ:p0)(jA:p1)(jP:p2)(kj:p3)(kH:p4)(kS:p5)(lF:p6)(lS:p7)(ml:p8)(mK:p9)(fe:iE)(fy:iP)(fL:jB)(gg:jQ):p0∧p1∧p2∧p3∧p4∧p5∧p6∧p7∧p8∧p9∧iE∧iP∧jB∧jQ∧True:=⟨hZ,jA,jP,kj,kH,kS,lF,lS,ml,mK,fe,fy,fL,gg,trivial⟩
theorem Jk{p0 p1 p2 p3 p4 p5 p6 p7 p8 p9 iE iP jB jQ kz:Prop}(hZ:p0)(jA:p1)(jP:p2)(kj:p3)(kH:p4)(kS:p5)(lF:p6)(lS:p7)(ml:p8)(mK:p9)(fe:iE)(fy:iP)(fL:jB)(gg:jQ)(gC:kz):p0∧p1∧p2∧p3∧p4∧p5∧p6∧p7∧p8∧p9∧iE∧iP∧jB∧jQ∧kz∧True:=⟨hZ,jA,jP,kj,kH,kS,lF,lS,ml,mK,fe,fy,fL,gg,gC,trivial⟩
theorem FB{p0 p1 p2 p3 p4 p5 p6 p7 p8 p9 iE iP jB jQ kz kT:Prop}(hZ:p0)(jA:p1)(jP:p2)(kj:p3)(kH:p4)(kS:p5)(lF:p6)(lS:p7)(ml:p8)(mK:p9)(fe:iE)(fy:iP)(fL:jB)(gg:jQ)(gC:kz)(gS:kT):p0∧p1∧p2∧p3∧p4∧p5∧p6∧p7∧p8∧p9∧iE∧iP∧jB∧jQ∧kz∧kT∧True:=⟨hZ,jA,jP,kj,kH,kS,lF,lS,ml,mK,fe,fy,fL,gg,gC,gS,trivial⟩
theorem Pf{p0 p1 p2 p3 p4 p5 p6 p7 p8 p9 iE iP jB jQ kz kT lI:Prop}(hZ:p0)(jA:p1)(jP:p2)(kj:p3)(kH:p4)(kS:p5)(lF:p6)(lS:p7)(ml:p8)(mK:p9)(fe:iE)(fy:iP)(fL:jB)(gg:jQ)(gC:kz)(gS:kT)(iC:lI):p0∧p1∧p2∧p3∧p4∧p5∧p6∧p7∧p8∧p9∧iE∧iP∧jB∧jQ∧kz∧kT∧lI∧True:=⟨hZ,jA,jP,kj,kH,kS,lF,lS,ml,mK,fe,fy,fL,gg,gC,gS,iC,trivial⟩
theorem RL{p0 p1 p2 p3 p4 p5 p6 p7 p8 p9 iE iP jB jQ kz kT lI mm:Prop}(hZ:p0)(jA:p1)(jP:p2)(kj:p3)(kH:p4)(kS:p5)(lF:p6)(lS:p7)(ml:p8)(mK:p9)(fe:iE)(fy:iP)(fL:jB)(gg:jQ)(gC:kz)(gS:kT)(iC:lI)(iQ:mm):p0∧p1∧p2∧p3∧p4∧p5∧p6∧p7∧p8∧p9∧iE∧iP∧jB∧jQ∧kz∧kT∧lI∧mm∧True:=⟨hZ,jA,jP,kj,kH,kS,lF,lS,ml,mK,fe,fy,fL,gg,gC,gS,iC,iQ,trivial⟩
theorem XL{p0 p1 p2 p3 p4 p5 p6 p7 p8 p9 iE iP jB jQ kz kT lI mm mO:Prop}(hZ:p0)(jA:p1)(jP:p2)(kj:p3)(kH:p4)(kS:p5)(lF:p6)(lS:p7)(ml:p8)(mK:p9)(fe:iE)(fy:iP)(fL:jB)(gg:jQ)(gC:kz)(gS:kT)(iC:lI)(iQ:mm)(jG:mO):p0∧p1∧p2∧p3∧p4∧p5∧p6∧p7∧p8∧p9∧iE∧iP∧jB∧jQ∧kz∧kT∧lI∧mm∧mO∧True:=⟨hZ,jA,jP,kj,kH,kS,lF,lS,ml,mK,fe,fy,fL,gg,gC,gS,iC,iQ,jG,trivial⟩
theorem Uk{p0 p1 p2 p3 p4 p5 p6 p7 p8 p9 iE iP jB jQ kz kT lI mm mO nA:Prop}(hZ:p0)(jA:p1)(jP:p2)(kj:p3)(kH:p4)(kS:p5)(lF:p6)(lS:p7)(ml:p8)(mK:p9)(fe:iE)(fy:iP)(fL:jB)(gg:jQ)(gC:kz)(gS:kT)(iC:lI)(iQ:mm)(jG:mO)(kl:nA):p0∧p1∧p2∧p3∧p4∧p5∧p6∧p7∧p8∧p9∧iE∧iP∧jB∧jQ∧kz∧kT∧lI∧mm∧mO∧nA∧True:=⟨hZ,jA,jP,kj,kH,kS,lF,lS,ml,mK,fe,fy,fL,gg,gC,gS,iC,iQ,jG,kl,trivial⟩
theorem Wf{p0 p1 p2 p3 p4 p5 p6 p7 p8 p9 iE iP jB jQ kz kT lI mm mO nA oq:Prop}(hZ:p0)(jA:p1)(jP:p2)(kj:p3)(kH:p4)(kS:p5)(lF:p6)(lS:p7)(ml:p8)(mK:p9)(fe:iE)(fy:iP)(fL:jB)(gg:jQ)(gC:kz)(gS:kT)(iC:lI)(iQ:mm)(jG:mO)(kl:nA)(kU:oq):p0∧p1∧p2∧p3∧p4∧p5∧p6∧p7∧p8∧p9∧iE∧iP∧jB∧jQ∧kz∧kT∧lI∧mm∧mO∧nA∧oq∧True:=⟨hZ,jA,jP,kj,kH,kS,lF,lS,ml,mK,fe,fy,fL,gg,gC,gS,iC,iQ,jG,kl,kU,trivial⟩
theorem Wg{p0 p1 p2 p3 p4 p5 p6 p7 p8 p9 iE iP jB jQ kz kT lI mm mO nA oq pD:Prop}(hZ:p0)(jA:p1)(jP:p2)(kj:p3)(kH:p4)(kS:p5)(lF:p6)(lS:p7)(ml:p8)(mK:p9)(fe:iE)(fy:iP)(fL:jB)(gg:jQ)(gC:kz)(gS:kT)(iC:lI)(iQ:mm)(jG:mO)(kl:nA)(kU:oq)(lT:pD):p0∧p1∧p2∧p3∧p4∧p5∧p6∧p7∧p8∧p9∧iE∧iP∧jB∧jQ∧kz∧kT∧lI∧mm∧mO∧nA∧oq∧pD∧True:=⟨hZ,jA,jP,kj,kH,kS,lF,lS,ml,mK,fe,fy,fL,gg,gC,gS,iC,iQ,jG,kl,kU,lT,trivial⟩
theorem Wh{p0 p1 p2 p3 p4 p5 p6 p7 p8 p9 iE iP jB jQ kz kT lI mm mO nA oq pD qV:Prop}(hZ:p0)(jA:p1)(jP:p2)(kj:p3)(kH:p4)(kS:p5)(lF:p6)(lS:p7)(ml:p8)(mK:p9)(fe:iE)(fy:iP)(fL:jB)(gg:jQ)(gC:kz)(gS:kT)(iC:lI)(iQ:mm)(jG:mO)(kl:nA)(kU:oq)(lT:pD)(mL:qV):p0∧p1∧p2∧p3∧p4∧p5∧p6∧p7∧p8∧p9∧iE∧iP∧jB∧jQ∧kz∧kT∧lI∧mm∧mO∧nA∧oq∧pD∧qV∧True:=⟨hZ,jA,jP,kj,kH,kS,lF,lS,ml,mK,fe,fy,fL,gg,gC,gS,iC,iQ,jG,kl,kU,lT,mL,trivial⟩
theorem Ul{p0 p1 p2 p3 p4 p5 p6 p7 p8 p9 iE iP jB jQ kz kT lI mm mO nA oq pD qV rE:Prop}(hZ:p0)(jA:p1)(jP:p2)(kj:p3)(kH:p4)(kS:p5)(lF:p6)(lS:p7)(ml:p8)(mK:p9)(fe:iE)(fy:iP)(fL:jB)(gg:jQ)(gC:kz)(gS:kT)(iC:lI)(iQ:mm)(jG:mO)(kl:nA)(kU:oq)(lT:pD)(mL:qV)(nB:rE):p0∧p1∧p2∧p3∧p4∧p5∧p6∧p7∧p8∧p9∧iE∧iP∧jB∧jQ∧kz∧kT∧lI∧mm∧mO∧nA∧oq∧pD∧qV∧rE∧True:=⟨hZ,jA,jP,kj,kH,kS,lF,lS,ml,mK,fe,fy,fL,gg,gC,gS,iC,iQ,jG,kl,kU,lT,mL,nB,trivial⟩
theorem XM{p0 p1 p2 p3 p4 p5 p6 p7 p8 p9 iE iP jB jQ kz kT lI mm mO nA oq pD qV rE tt tu:Prop}(hZ:p0)(jA:p1)(jP:p2)(kj:p3)(kH:p4)(kS:p5)(lF:p6)(lS:p7)(ml:p8)(mK:p9)(fe:iE)(fy:iP)(fL:jB)(gg:jQ)(gC:kz)(gS:kT)(iC:lI)(iQ:mm)(jG:mO)(kl:nA)(kU:oq)(lT:pD)(mL:qV)(nB:rE)(o5:tt)(o6:tu):p0∧p1∧p2∧p3∧p4∧p5∧p6∧p7∧p8∧p9∧iE∧iP∧jB∧jQ∧kz∧kT∧lI∧mm∧mO∧nA∧oq∧pD∧qV∧rE∧tt∧tu∧True:=⟨hZ,jA,jP,kj,kH,kS,lF,lS,ml,mK,fe,fy,fL,gg,gC,gS,iC,iQ,jG,kl,kU,lT,mL,nB,o5,o6,trivial⟩
theorem XN{p0 p1 p2 p3 p4 p5 p6 p7 p8 p9 iE iP jB jQ kz kT lI mm mO nA oq pD qV rE tt tu u7:Prop}(hZ:p0)(jA:p1)(jP:p2)(kj:p3)(kH:p4)(kS:p5)(lF:p6)(lS:p7)(ml:p8)(mK:p9)(fe:iE)(fy:iP)(fL:jB)(gg:jQ)(gC:kz)(gS:kT)(iC:lI)(iQ:mm)(jG:mO)(kl:nA)(kU:oq)(lT:pD)(mL:qV)(nB:rE)(o5:tt)(o6:tu)(ql:u7):p0∧p1∧p2∧p3∧p4∧p5∧p6∧p7∧p8∧p9∧iE∧iP∧jB∧jQ∧kz∧kT∧lI∧mm∧mO∧nA∧oq∧pD∧qV∧rE∧tt∧tu∧u7∧True:=⟨hZ,jA,jP,kj,kH,kS,lF,lS,ml,mK,fe,fy,fL,gg,gC,gS,iC,iQ,jG,kl,kU,lT,mL,nB,o5,o6,ql,trivial⟩
theorem XO{p0 p1 p2 p3 p4 p5 p6 p7 p8 p9 iE iP jB jQ kz kT lI mm mO nA oq pD qV rE tt tu u7 xu xv:Prop}(hZ:p0)(jA:p1)(jP:p2)(kj:p3)(kH:p4)(kS:p5)(lF:p6)(lS:p7)(ml:p8)(mK:p9)(fe:iE)(fy:iP)(fL:jB)(gg:jQ)(gC:kz)(gS:kT)(iC:lI)(iQ:mm)(jG:mO)(kl:nA)(kU:oq)(lT:pD)(mL:qV)(nB:rE)(o5:tt)(o6:tu)(ql:u7)(rF:xu)(rG:xv):p0∧p1∧p2∧p3∧p4∧p5∧p6∧p7∧p8∧p9∧iE∧iP∧jB∧jQ∧kz∧kT∧lI∧mm∧mO∧nA∧oq∧pD∧qV∧rE∧tt∧tu∧u7∧xu∧xv∧True:=⟨hZ,jA,jP,kj,kH,kS,lF,lS,ml,mK,fe,fy,fL,gg,gC,gS,iC,iQ,jG,kl,kU,lT,mL,nB,o5,o6,ql,rF,rG,trivial⟩
theorem Um{p0 p1 p2 p3 p4 p5 p6 p7 p8 p9 iE iP jB jQ kz kT lI mm mO nA oq pD qV rE tt tu u7 xu xv zN:Prop}(hZ:p0)(jA:p1)(jP:p2)(kj:p3)(kH:p4)(kS:p5)(lF:p6)(lS:p7)(ml:p8)(mK:p9)(fe:iE)(fy:iP)(fL:jB)(gg:jQ)(gC:kz)(gS:kT)(iC:lI)(iQ:mm)(jG:mO)(kl:nA)(kU:oq)(lT:pD)(mL:qV)(nB:rE)(o5:tt)(o6:tu)(ql:u7)(rF:xu)(rG:xv)(tY:zN):p0∧p1∧p2∧p3∧p4∧p5∧p6∧p7∧p8∧p9∧iE∧iP∧jB∧jQ∧kz∧kT∧lI∧mm∧mO∧nA∧oq∧pD∧qV∧rE∧tt∧tu∧u7∧xu∧xv∧zN∧True:=⟨hZ,jA,jP,kj,kH,kS,lF,lS,ml,mK,fe,fy,fL,gg,gC,gS,iC,iQ,jG,kl,kU,lT,mL,nB,o5,o6,ql,rF,rG,tY,trivial⟩
theorem Un{p0 p1 p2 p3 p4 p5 p6 p7 p8 p9 iE iP jB jQ kz kT lI mm mO nA oq pD qV rE tt tu u7 xu xv zN BM:Prop}(hZ:p0)(jA:p1)(jP:p2)(kj:p3)(kH:p4)(kS:p5)(lF:p6)(lS:p7)(ml:p8)(mK:p9)(fe:iE)(fy:iP)(fL:jB)(gg:jQ)(gC:kz)(gS:kT)(iC:lI)(iQ:mm)(jG:mO)(kl:nA)(kU:oq)(lT:pD)(mL:qV)(nB:rE)(o5:tt)(o6:tu)(ql:u7)(rF:xu)(rG:xv)(tY:zN)(wD:BM):p0∧p1∧p2∧p3∧p4∧p5∧p6∧p7∧p8∧p9∧iE∧iP∧jB∧jQ∧kz∧kT∧lI∧mm∧mO∧nA∧oq∧pD∧qV∧rE∧tt∧tu∧u7∧xu∧xv∧zN∧BM∧True:=⟨hZ,jA,jP,kj,kH,kS,lF,lS,ml,mK,fe,fy,fL,gg,gC,gS,iC,iQ,jG,kl,kU,lT,mL,nB,o5,o6,ql,rF,rG,tY,wD,trivial⟩
theorem XP{p0 p1 p2 p3 p4 p5 p6 p7 p8 p9 iE iP jB jQ kz kT lI mm mO nA oq pD qV rE tt tu u7 xu xv zN BM Ey Ez DQ EA:Prop}(hZ:p0)(jA:p1)(jP:p2)(kj:p3)(kH:p4)(kS:p5)(lF:p6)(lS:p7)(ml:p8)(mK:p9)(fe:iE)(fy:iP)(fL:jB)(gg:jQ)(gC:kz)(gS:kT)(iC:lI)(iQ:mm)(jG:mO)(kl:nA)(kU:oq)(lT:pD)(mL:qV)(nB:rE)(o5:tt)(o6:tu)(ql:u7)(rF:xu)(rG:xv)(tY:zN)(wD:BM)(zO:Ey)(zP:Ez)(zQ:DQ)(zR:EA):p0∧p1∧p2∧p3∧p4∧p5∧p6∧p7∧p8∧p9∧iE∧iP∧jB∧jQ∧kz∧kT∧lI∧mm∧mO∧nA∧oq∧pD∧qV∧rE∧tt∧tu∧u7∧xu∧xv∧zN∧BM∧Ey∧Ez∧DQ∧EA∧True:=⟨hZ,jA,jP,kj,kH,kS,lF,lS,ml,mK,fe,fy,fL,gg,gC,gS,iC,iQ,jG,kl,kU,lT,mL,nB,o5,o6,ql,rF,rG,tY,wD,zO,zP,zQ,zR,trivial⟩
theorem XQ{p0 p1 p2 p3 p4 p5 p6 p7 p8 p9 iE iP jB jQ kz kT lI mm mO nA oq pD qV rE tt tu u7 xu xv zN BM Ey Ez DQ EA Hu:Prop}(hZ:p0)(jA:p1)(jP:p2)(kj:p3)(kH:p4)(kS:p5)(lF:p6)(lS:p7)(ml:p8)(mK:p9)(fe:iE)(fy:iP)(fL:jB)(gg:jQ)(gC:kz)(gS:kT)(iC:lI)(iQ:mm)(jG:mO)(kl:nA)(kU:oq)(lT:pD)(mL:qV)(nB:rE)(o5:tt)(o6:tu)(ql:u7)(rF:xu)(rG:xv)(tY:zN)(wD:BM)(zO:Ey)(zP:Ez)(zQ:DQ)(zR:EA)(CT:Hu):p0∧p1∧p2∧p3∧p4∧p5∧p6∧p7∧p8∧p9∧iE∧iP∧jB∧jQ∧kz∧kT∧lI∧mm∧mO∧nA∧oq∧pD∧qV∧rE∧tt∧tu∧u7∧xu∧xv∧zN∧BM∧Ey∧Ez∧DQ∧EA∧Hu∧True:=⟨hZ,jA,jP,kj,kH,kS,lF,lS,ml,mK,fe,fy,fL,gg,gC,gS,iC,iQ,jG,kl,kU,lT,mL,nB,o5,o6,ql,rF,rG,tY,wD,zO,zP,zQ,zR,CT,trivial⟩
theorem Wi{p0 p1 p2 p3 p4 p5 p6 p7 p8 p9 iE iP jB jQ kz kT lI mm mO nA oq pD qV rE tt tu u7 xu xv zN BM Ey Ez DQ EA Hu Ko:Prop}(hZ:p0)(jA:p1)(jP:p2)(kj:p3)(kH:p4)(kS:p5)(lF:p6)(lS:p7)(ml:p8)(mK:p9)(fe:iE)(fy:iP)(fL:jB)(gg:jQ)(gC:kz)(gS:kT)(iC:lI)(iQ:mm)(jG:mO)(kl:nA)(kU:oq)(lT:pD)(mL:qV)(nB:rE)(o5:tt)(o6:tu)(ql:u7)(rF:xu)(rG:xv)(tY:zN)(wD:BM)(zO:Ey)(zP:Ez)(zQ:DQ)(zR:EA)(CT:Hu)(Gp:Ko):p0∧p1∧p2∧p3∧p4∧p5∧p6∧p7∧p8∧p9∧iE∧iP∧jB∧jQ∧kz∧kT∧lI∧mm∧mO∧nA∧oq∧pD∧qV∧rE∧tt∧tu∧u7∧xu∧xv∧zN∧BM∧Ey∧Ez∧DQ∧EA∧Hu∧Ko∧True:=⟨hZ,jA,jP,kj,kH,kS,lF,lS,ml,mK,fe,fy,fL,gg,gC,gS,iC,iQ,jG,kl,kU,lT,mL,nB,o5,o6,ql,rF,rG,tY,wD,zO,zP,zQ,zR,CT,Gp,trivial⟩
theorem XS{p0 p1 p2 p3 p4 p5 p6 p7 p8 p9 iE iP jB jQ kz kT lI mm mO nA oq pD qV rE tt tu u7 xu xv zN BM Ey Ez DQ EA Hu Ko N6:Prop}(hZ:p0)(jA:p1)(jP:p2)(kj:p3)(kH:p4)(kS:p5)(lF:p6)(lS:p7)(ml:p8)(mK:p9)(fe:iE)(fy:iP)(fL:jB)(gg:jQ)(gC:kz)(gS:kT)(iC:lI)(iQ:mm)(jG:mO)(kl:nA)(kU:oq)(lT:pD)(mL:qV)(nB:rE)(o5:tt)(o6:tu)(ql:u7)(rF:xu)(rG:xv)(tY:zN)(wD:BM)(zO:Ey)(zP:Ez)(zQ:DQ)(zR:EA)(CT:Hu)(Gp:Ko)(Kp:N6):p0∧p1∧p2∧p3∧p4∧p5∧p6∧p7∧p8∧p9∧iE∧iP∧jB∧jQ∧kz∧kT∧lI∧mm∧mO∧nA∧oq∧pD∧qV∧rE∧tt∧tu∧u7∧xu∧xv∧zN∧BM∧Ey∧Ez∧DQ∧EA∧Hu∧Ko∧N6∧True:=⟨hZ,jA,jP,kj,kH,kS,lF,lS,ml,mK,fe,fy,fL,gg,gC,gS,iC,iQ,jG,kl,kU,lT,mL,nB,o5,o6,ql,rF,rG,tY,wD,zO,zP,zQ,zR,CT,Gp,Kp,trivial⟩
theorem XT{p0 p1 p2 p3 p4 p5 p6 p7 p8 p9 iE iP jB jQ kz kT lI mm mO nA oq pD qV rE tt tu u7 xu xv zN BM Ey Ez DQ EA Hu Ko N6 RM:Prop}(hZ:p0)(jA:p1)(jP:p2)(kj:p3)(kH:p4)(kS:p5)(lF:p6)(lS:p7)(ml:p8)(mK:p9)(fe:iE)(fy:iP)(fL:jB)(gg:jQ)(gC:kz)(gS:kT)(iC:lI)(iQ:mm)(jG:mO)(kl:nA)(kU:oq)(lT:pD)(mL:qV)(nB:rE)(o5:tt)(o6:tu)(ql:u7)(rF:xu)(rG:xv)(tY:zN)(wD:BM)(zO:Ey)(zP:Ez)(zQ:DQ)(zR:EA)(CT:Hu)(Gp:Ko)(Kp:N6)(Pg:RM):p0∧p1∧p2∧p3∧p4∧p5∧p6∧p7∧p8∧p9∧iE∧iP∧jB∧jQ∧kz∧kT∧lI∧mm∧mO∧nA∧oq∧pD∧qV∧rE∧tt∧tu∧u7∧xu∧xv∧zN∧BM∧Ey∧Ez∧DQ∧EA∧Hu∧Ko∧N6∧RM∧True:=⟨hZ,jA,jP,kj,kH,kS,lF,lS,ml,mK,fe,fy,fL,gg,gC,gS,iC,iQ,jG,kl,kU,lT,mL,nB,o5,o6,ql,rF,rG,tY,wD,zO,zP,zQ,zR,CT,Gp,Kp,Pg,trivial⟩
theorem XU{p0 p1 p2 p3 p4 p5 p6 p7 p8 p9 iE iP jB jQ kz kT lI mm mO nA oq pD qV rE tt tu u7 xu xv zN BM Ey Ez DQ EA Hu Ko N6 RM Wj:Prop}(hZ:p0)(jA:p1)(jP:p2)(kj:p3)(kH:p4)(kS:p5)(lF:p6)(lS:p7)(ml:p8)(mK:p9)(fe:iE)(fy:iP)(fL:jB)(gg:jQ)(gC:kz)(gS:kT)(iC:lI)(iQ:mm)(jG:mO)(kl:nA)(kU:oq)(lT:pD)(mL:qV)(nB:rE)(o5:tt)(o6:tu)(ql:u7)(rF:xu)(rG:xv)(tY:zN)(wD:BM)(zO:Ey)(zP:Ez)(zQ:DQ)(zR:EA)(CT:Hu)(Gp:Ko)(Kp:N6)(Pg:RM)(Uo:Wj):p0∧p1∧p2∧p3∧p4∧p5∧p6∧p7∧p8∧p9∧iE∧iP∧jB∧jQ∧kz∧kT∧lI∧mm∧mO∧nA∧oq∧pD∧qV∧rE∧tt∧tu∧u7∧xu∧xv∧zN∧BM∧Ey∧Ez∧DQ∧EA∧Hu∧Ko∧N6∧RM∧Wj∧True:=⟨hZ,jA,jP,kj,kH,kS,lF,lS,ml,mK,fe,fy,fL,gg,gC,gS,iC,iQ,jG,kl,kU,lT,mL,nB,o5,o6,ql,rF,rG,tY,wD,zO,zP,zQ,zR,CT,Gp,Kp,Pg,Uo,trivial⟩
end Go.Proofs.YtllmkadmohkbfaaGreatDoor.Sym
namespace Go.Proofs.YtllmkadmohkbfaaGreatDoor.Sym
open Go Go.RowKit Go.ChangeShapes Go.WideShapes
set_option linter.unusedVariables false
theorem MV{n:Int}(h:(Lit.int .u32 n).wf=true):∃v:UInt32,(v.toNat:Int)=n:=by
 have h:(0≤n∧n≤4294967295):=by simpa[Lit.wf,IntKind.min,IntKind.max,IntKind.signed,IntKind.bits] using h
 refine⟨UInt32.ofNat n.toNat,?_⟩
 rw[show (UInt32.ofNat n.toNat).toNat=n.toNat from by simp;omega]
 omega
theorem Gq:rC bp 119 ag (fun _=>True):=by
 intro H enc w base spare held fuel cs x h BK
 obtain⟨n,h1,h2⟩:=IH (k := .u32) (show bp.underlying 119=some (.int .u32) by kernel_rfl) enc w base spare held fuel cs x h BK
 obtain⟨v,rfl⟩:=MV h2
 exact⟨v,h1,trivial⟩
theorem xw:rC bp 24 (fun l:Words=>[aa l]) (fun l=>l.length*4≤reachBytes):=by
 intro H enc w base spare held fuel cs x h BK
 obtain⟨l,h1,h2,_⟩:=xq (s:=1) (show bp.underlying 24=some (.slice 119) by kernel_rfl) (by kernel_rfl) (by omega) (sb:=4) (by kernel_rfl) (fun _=>rfl) Gq enc w base spare held fuel cs x h BK
 exact⟨l,h1,h2⟩
theorem Ph{α:Type}(cs:List α)(a b c:Nat)(h:cs.length=a+b+c):cs=(cs.drop 0).take a++((cs.drop a).take b++(cs.drop (a+b)).take c):=by
 have e:(cs.drop (a+b)).take c=cs.drop (a+b):=List.take_of_length_le (by rw[List.length_drop];omega)
 have h1:(cs.drop a).take b++cs.drop (a+b)=cs.drop a:=by
  have:=List.take_append_drop b (cs.drop a)
  rwa[List.drop_drop] at this
 rw[e,h1,List.drop_zero,List.take_append_drop]
def MW(a:af):Prop:=a.num.length*4≤reachBytes∧a.den.length*4≤reachBytes
theorem tZ:rC bp 26 af.cells MW:=by
 intro H enc w base spare held fuel cs x h BK
 obtain⟨fs,hu,e⟩:=nc (show rD (bp.underlying 26)=some [(4,0),(24,1),(24,2)] by kernel_rfl)
 have hl:=qk hu h
 have hl:cs.length=1+1+1:=hl.trans (by kernel_rfl)
 obtain⟨b,r0,_⟩:=iO hu h BK 0 0 1 (e 0) (by kernel_rfl) (Gl (show bp.underlying 4=some .bool by kernel_rfl))
 obtain⟨n,r1,q1⟩:=iO hu h BK 1 1 1 (e 1) (by kernel_rfl) xw
 obtain⟨d,r2,q2⟩:=iO hu h BK 2 2 1 (e 2) (by kernel_rfl) xw
 refine⟨⟨b,n,d⟩,?_,q1,q2⟩
 rw[Ph cs 1 1 1 hl]
 exact kR r0 (kR r1 r2)
end Go.Proofs.YtllmkadmohkbfaaGreatDoor.Sym
namespace Go.Proofs.YtllmkadmohkbfaaGreatDoor.Sym
open Go Go.RowKit Go.ChangeShapes Go.WideShapes
set_option linter.unusedVariables false
theorem Gr:rC bp 23 (aC af.cells) (fun l=>∀a∈l,MW a):=by
 intro H enc w base spare held fuel cs x h BK
 obtain⟨l,h1,_,h2⟩:=xq (s:=3) (show bp.underlying 23=some (.slice 26) by kernel_rfl) (by kernel_rfl) (by omega) (sb:=56) (by kernel_rfl) (fun _=>rfl) tZ enc w base spare held fuel cs x h BK
 exact⟨l,h1,h2⟩
theorem Kq{α:Type}(cs:List α)(a b:Nat)(h:cs.length=a+b):cs=(cs.drop 0).take a++(cs.drop a).take b:=by
 have e:(cs.drop a).take b=cs.drop a:=List.take_of_length_le (by rw[List.length_drop];omega)
 rw[e,List.drop_zero,List.take_append_drop]
theorem CU:rC bp 28 aj.cells (fun r=>MW r.lo∧MW r.hi):=by
 intro H enc w base spare held fuel cs x h BK
 obtain⟨fs,hu,e⟩:=nc (show rD (bp.underlying 28)=some [(26,0),(26,3)] by kernel_rfl)
 have hl:=qk hu h
 have hl:cs.length=3+3:=hl.trans (by kernel_rfl)
 obtain⟨a,r0,q0⟩:=iO hu h BK 0 0 3 (e 0) (by kernel_rfl) tZ
 obtain⟨b,r1,q1⟩:=iO hu h BK 1 3 3 (e 1) (by kernel_rfl) tZ
 refine⟨⟨a,b⟩,?_,q0,q1⟩
 rw[Kq cs 3 3 hl]
 exact kR r0 r1
end Go.Proofs.YtllmkadmohkbfaaGreatDoor.Sym
namespace Go.Proofs.YtllmkadmohkbfaaGreatDoor.Sym
open Go Go.RowKit Go.ChangeShapes Go.WideShapes
set_option linter.unusedVariables false
theorem ua:rC bp 30 aQ.cells (fun x=>True):=by
 intro H enc w base spare held fuel cs x h BK
 obtain⟨fs,hu,e⟩:=nc (show rD (bp.underlying 30)=some [(23,0),(28,1)] by kernel_rfl)
 have hl:=qk hu h
 have hl:cs.length=1+6:=hl.trans (by kernel_rfl)
 obtain⟨a,r0,q0⟩:=iO hu h BK 0 0 1 (e 0) (by kernel_rfl) Gr
 obtain⟨b,r1,q1⟩:=iO hu h BK 1 1 6 (e 1) (by kernel_rfl) CU
 refine⟨⟨a,b⟩,?_,trivial⟩
 rw[Kq cs 1 6 hl]
 exact kR r0 r1
end Go.Proofs.YtllmkadmohkbfaaGreatDoor.Sym
namespace Go.Proofs.YtllmkadmohkbfaaGreatDoor.Sym
def nat:Words→Nat
 |[]=>0
 |w::r=>w.toNat+4294967296*nat r
def qm:Nat→Nat→Words
 |0,_=>[]
 |f+1,n=>bif Nat.beq n 0 then [] else UInt32.ofNat n::qm f (n/4294967296)
def words(n:Nat):Words:=qm n n
theorem ij(w:UInt32):w.toNat<4294967296:=w.toNat_lt
theorem sA(n:Nat):(UInt32.ofNat n).toNat=n%4294967296:=by simp
theorem Pj{a b:UInt32}(h:a.toNat=b.toNat):a=b:=UInt32.toNat_inj.1 h
theorem Up{n:Nat}(h:n<4294967296):(UInt32.ofNat n).toNat=n:=by rw[sA];exact Nat.mod_eq_of_lt h
theorem gD(n:Nat)(h:n<4294967296):∃w:UInt32,w.toNat=n:=⟨UInt32.ofNat n,Up h⟩
theorem ub : ∀ (f n : Nat), n ≤ f → nat (qm f n) = n
  | 0, n, h => by have : n = 0 := by omega
                  subst this; rfl
  | f + 1, n, h => by
    unfold qm
    by_cases h0 : n = 0
    · subst h0; rfl
    · have : Nat.beq n 0 = false := by
        cases hb : Nat.beq n 0 with
        | true => exact absurd (Nat.eq_of_beq_eq_true hb) h0
        | false => rfl
      rw [this]
      show (UInt32.ofNat n).toNat + 4294967296 * nat (qm f (n / 4294967296)) = n
      rw [ub f (n / 4294967296) (by omega), sA]
      omega
theorem aD(n:Nat):nat (words n)=n:=ub n n (Nat.le_refl n)
def cn:Words→Bool
 |[]=>true
 |[w]=>w.toNat != 0
 |_::w::r=>cn (w::r)
theorem CV{w:UInt32}{r:Words}(h:cn (w::r)=true):cn r=true:=by
 cases r with
 |nil=>rfl
 |cons v r=>exact h
theorem o7:∀{l:Words},cn l=true→l≠[]→0<nat l
 |[],_,h=>absurd rfl h
 |[w],h,_=>by
  simp[cn] at h
  show 0<w.toNat+4294967296*0
  omega
 |w::v::r,h,_=>by
  have:=o7 (l:=v::r) h (by simp)
  show 0<w.toNat+4294967296*nat (v::r)
  omega
theorem Kr:∀{a b:Words},cn a=true→cn b=true→nat a=nat b→a=b
 |[],[],_,_,_=>rfl
 |[],w::r,_,hb,h=>by have:=o7 hb (by simp);have h0:nat []=0:=rfl;omega
 |w::r,[],ha,_,h=>by have:=o7 ha (by simp);have h0:nat []=0:=rfl;omega
 |w::r,v::s,ha,hb,h=>by
  have h:w.toNat+4294967296*nat r=v.toNat+4294967296*nat s:=h
  have h1:=ij w
  have h2:=ij v
  have h3:w.toNat=v.toNat:=by omega
  have h4:nat r=nat s:=by omega
  rw[Pj h3,Kr (CV ha) (CV hb) h4]
theorem BN:∀(f n:Nat),n≤f→cn (qm f n)=true
 |0,n,_=>rfl
 |f+1,n,h=>by
  unfold qm
  by_cases h0:n=0
  ·subst h0;rfl
  ·have:Nat.beq n 0=false:=by
    cases hb:Nat.beq n 0 with
    |true=>exact absurd (Nat.eq_of_beq_eq_true hb) h0
    |false=>rfl
   rw[this]
   show cn (UInt32.ofNat n::qm f (n/4294967296))=true
   have ih:=BN f (n/4294967296) (by omega)
   have hn:=ub f (n/4294967296) (by omega)
   cases hr:qm f (n/4294967296) with
   |nil =>
    rw[hr] at hn
    have hn:0=n/4294967296:=hn
    show((UInt32.ofNat n).toNat != 0)=true
    rw[sA]
    have:n%4294967296≠0:=by omega
    simpa using this
   |cons v r=>rw[hr] at ih;exact ih
theorem gE(n:Nat):cn (words n)=true:=BN n n (Nat.le_refl n)
theorem rH{l:Words}{n:Nat}(hc:cn l=true)(h:nat l=n):words n=l:=Kr (gE n) hc (by rw[aD,h])
theorem et{l:Words}(hc:cn l=true):words (nat l)=l:=rH hc rfl
theorem eT:words 0=[]:=rfl
theorem sC{n:Nat} : words n=[]↔n=0:=by
 constructor
 ·intro h;rw[←aD n,h];rfl
 ·intro h;subst h;rfl
theorem dk{n:Nat} : (words n).length=0↔n=0:=by rw[List.length_eq_zero_iff,sC]
theorem dU:∀l:Words,nat l<4294967296^l.length
 |[]=>by simp[nat]
 |w::r=>by
  have h1:=dU r
  have h2:=ij w
  show w.toNat+4294967296*nat r<4294967296^(r.length+1)
  rw[Nat.pow_succ]
  omega
theorem lU:∀a b:Words,nat (a++b)=nat a+4294967296^a.length*nat b
 |[],b=>by simp[nat]
 |w::r,b=>by
  show w.toNat+4294967296*nat (r++b)=w.toNat+4294967296*nat r+4294967296^(r.length+1)*nat b
  rw[lU r b,Nat.pow_succ,Nat.mul_add,←Nat.mul_assoc,Nat.mul_comm 4294967296 (4294967296^r.length)]
  omega
theorem jl(l:Words)(k:Nat)(h:k≤l.length):nat l=nat (l.take k)+4294967296^k*nat (l.drop k):=by
 conv=>lhs;rw[←List.take_append_drop k l]
 rw[lU,List.length_take,Nat.min_eq_left h]
theorem bR{l:Words}{k:Nat}{v:UInt32}(h:l[k]? = some v):nat (l.take (k+1))=nat (l.take k)+4294967296^k*v.toNat:=by
 have hk:k<l.length:=(List.getElem?_eq_some_iff.1 h).1
 rw[List.take_add_one,h]
 show nat (l.take k++[v])=_
 rw[lU,List.length_take,Nat.min_eq_left (Nat.le_of_lt hk)]
 simp[nat]
theorem pE{l:Words}{k:Nat}{v:UInt32}(h:l[k]? = some v):nat (l.drop k)=v.toNat+4294967296*nat (l.drop (k+1)):=by
 have hk:k<l.length:=(List.getElem?_eq_some_iff.1 h).1
 have hv:l[k]=v:=by
  have:=List.getElem?_eq_getElem hk
  rw[h] at this;injection this with this;exact this.symm
 rw[List.drop_eq_getElem_cons hk,hv];rfl
theorem lV:∀n:Nat,nat (List.replicate n 0)=0
 |0=>rfl
 |n+1=>by
  show(0:UInt32).toNat+4294967296*nat (List.replicate n 0)=0
  rw[lV n];rfl
theorem ot:∀(l:Words) (k:Nat) (v u:UInt32),l[k]? = some u→nat (l.set k v)+4294967296^k*u.toNat=nat l+4294967296^k*v.toNat
 |[],k,v,u,h=>by simp at h
 |w::r,0,v,u,h=>by
  simp at h;subst h
  show v.toNat+4294967296*nat r+4294967296^0*w.toNat=w.toNat+4294967296*nat r+4294967296^0*v.toNat
  omega
 |w::r,k+1,v,u,h=>by
  have ih:=ot r k v u (by simpa using h)
  show w.toNat+4294967296*nat (r.set k v)+4294967296^(k+1)*u.toNat=w.toNat+4294967296*nat r+4294967296^(k+1)*v.toNat
  rw[Nat.pow_succ,Nat.mul_comm (4294967296^k) 4294967296,Nat.mul_assoc,Nat.mul_assoc]
  omega
theorem fV{l:Words}{k:Nat}{v:UInt32}(h:k<l.length):nat ((l.set k v).take (k+1))=nat (l.take k)+4294967296^k*v.toNat:=by
 rw[bR (v:=v) (by simp[h]),List.take_set_of_le (Nat.le_refl k)]
theorem aR{l:Words}{k:Nat}(h:l.length≤k):nat (l.take k)=nat l:=by rw[List.take_of_length_le h]
theorem eu{n k:Nat}(h:n<4294967296^k):(words n).length≤k:=by
 have key:∀(l:Words),cn l=true→∀k,nat l<4294967296^k→l.length≤k:=by
  intro l
  induction l with
  |nil=>intro _ k _;simp
  |cons w r ih =>
   intro hc k hk
   have hp:=o7 hc (by simp)
   cases k with
   |zero=>simp at hk;omega
   |succ k =>
    have h1:w.toNat+4294967296*nat r<4294967296^(k+1):=hk
    rw[Nat.pow_succ] at h1
    have:=ih (CV hc) k (by omega)
    simp;omega
 exact key _ (gE n) k (by rw[aD];exact h)
theorem jm(n:Nat):n<4294967296^(words n).length:=by
 have:=dU (words n)
 rwa[aD] at this
theorem kV{a b:Nat}(h:a≤b):4294967296^a≤4294967296^b:=Nat.pow_le_pow_right (by omega) h
theorem dL{m n:Nat}(h:m≤n):(words m).length≤(words n).length:=eu (Nat.lt_of_le_of_lt h (jm n))
theorem zS(l:Words):(words (nat l)).length≤l.length:=eu (dU l)
theorem EB{l:Words}(hc:cn l=true)(df:l≠[]):4294967296^(l.length-1)≤nat l:=by
 refine Nat.le_of_not_lt fun h => ?_
 have h1:=eu h
 rw[et hc] at h1
 have:0<l.length:=List.length_pos_iff.2 df
 omega
theorem l6:∀{l:Words} {v:UInt32},l[l.length-1]? = some v→(cn l=true↔v.toNat≠0)
 |[],v,h=>by simp at h
 |[w],v,h=>by simp at h;subst h;simp[cn]
 |w::u::r,v,h=>by
  have h':(u::r)[(u::r).length-1]? = some v:=by
   simp only[List.length_cons,Nat.add_sub_cancel] at h ⊢
   rw[show r.length+1=(r.length)+1 from rfl,List.getElem?_cons_succ] at h
   exact h
  exact l6 (l:=u::r) h'
end Go.Proofs.YtllmkadmohkbfaaGreatDoor.Sym
namespace Go.Proofs.YtllmkadmohkbfaaGreatDoor.Sym.Path
open Go
set_option maxRecDepth 20000
set_option linter.unusedVariables false
namespace ou
theorem e0(a b:au)(c d:Ws)(g i j:Bool)(k:Ws)(l:au)(h1:Cp 134 [a.pv] (aa c))(h2:Cp 134 [b.pv] (aa d))(h3:Cp 135 [a.pv] (vB g))(h4:Cp 135 [b.pv] (vB i))(h5:g=i)(h6:Cp 135 [a.pv] (vB j))(h7:Cp 137 [aa c,aa d] (aa k))(h8:Cp 136 [vB j,aa k] l.pv):Cp 66 [a.pv,b.pv] l.pv :=
 eD Tryz.func66 93 [1,1,1,1,1,1,1,1] [.q,dr 4 2 [.none,(.pv (aa c)),.none,(.pv (aa d))],dr 5 1 [.none,(.pv (vB g)),.none,(.pv (vB i))],.t,.aV [.o,(.pv (vB j)),.o,.o,(.pv (aa k)),(.pv l.pv)]] (y8 h1 h2 h3 h4 (oi h5) h6 h7 h8)
theorem e1(a b:au)(c d:Ws)(g i:Bool)(j:Int)(k:Bool)(l:Ws)(m:au)(h1:Cp 134 [a.pv] (aa c))(h2:Cp 134 [b.pv] (aa d))(h3:Cp 135 [a.pv] (vB g))(h4:Cp 135 [b.pv] (vB i))(h5:g≠i)(h6:Cp 138 [aa c,aa d] (vI j))(h7:0≤j)(h8:Cp 135 [a.pv] (vB k))(h9:Cp 139 [aa c,aa d] (aa l))(ec:Cp 136 [vB k,aa l] m.pv):Cp 66 [a.pv,b.pv] m.pv :=
 eD Tryz.func66 102 [1,1,1,1,1,1,1,1,1,1] [.q,dr 4 2 [.none,(.pv (aa c)),.none,(.pv (aa d))],dr 5 1 [.none,(.pv (vB g)),.none,(.pv (vB i))],.f,.h 2 (.pv (vI j)),.t,.aV [.o,(.pv (vB k)),.o,.o,(.pv (aa l)),(.pv m.pv)]] (FA h1 h2 h3 h4 (tp h5) h6 (eH h7) h8 h9 ec)
theorem e2(a b:au)(c d:Ws)(g i:Bool)(j:Int)(k:Bool)(l:Ws)(m:au)(h1:Cp 134 [a.pv] (aa c))(h2:Cp 134 [b.pv] (aa d))(h3:Cp 135 [a.pv] (vB g))(h4:Cp 135 [b.pv] (vB i))(h5:g≠i)(h6:Cp 138 [aa c,aa d] (vI j))(h7:j<0)(h8:Cp 135 [b.pv] (vB k))(h9:Cp 139 [aa d,aa c] (aa l))(ec:Cp 136 [vB k,aa l] m.pv):Cp 66 [a.pv,b.pv] m.pv :=
 eD Tryz.func66 108 [1,1,1,1,1,1,1,1,1,1] [.q,dr 4 2 [.none,(.pv (aa c)),.none,(.pv (aa d))],dr 5 1 [.none,(.pv (vB g)),.none,(.pv (vB i))],.f,.h 2 (.pv (vI j)),.f,.aV [.o,(.pv (vB k)),.o,.o,(.pv (aa l)),(.pv m.pv)]] (FA h1 h2 h3 h4 (tp h5) h6 (jO h7) h8 h9 ec)
end ou
namespace uc
theorem e0(n:Int)(m m1:Nat)(w:UInt32)(z:Nat)(w1:UInt32)(a:au)(h1:n%18446744073709551616=(m:Int))(h2:n<0)(h3:(0-(m:Int))%18446744073709551616=(m1:Int))(h4:m1%4294967296=w.toNat)(h5:m1/2^(min 32 64)=z)(h6:z%4294967296=w1.toNat)(h7:Cp 136 [(vB (decide (n<0))),(aa [w,w1])] a.pv):Cp 67 [vI n] a.pv :=
 eD Tryz.func67 93 [1,1,1,1,1,1,3,1] [.q,.h 1 (iU m),.q,.t,.h 1 (iU m1),.aV [.o,.o,.o,iW w,.o,iU z,iW w1,(.iL 0 0 (([w,w1]:Ws).map ag)),(.pv a.pv)]] (y8 (CQ h1) (bY h2) (zK h3) (cv h4) (cF (k := .u64) h5) (cv h6) (ki aY ([w,w1]:Ws)) h7)
theorem e1(n:Int)(m:Nat)(w:UInt32)(z:Nat)(w1:UInt32)(a:au)(h1:n%18446744073709551616=(m:Int))(h2:0≤n)(h3:m%4294967296=w.toNat)(h4:m/2^(min 32 64)=z)(h5:z%4294967296=w1.toNat)(h6:Cp 136 [(vB (decide (n<0))),(aa [w,w1])] a.pv):Cp 67 [vI n] a.pv :=
 eD Tryz.func67 93 [1,1,1,1,1,3,1] [.q,.h 1 (iU m),.q,.f,.aV [.o,.o,.o,iW w,.o,iU z,iW w1,(.iL 0 0 (([w,w1]:Ws).map ag)),(.pv a.pv)]] (y7 (CQ h1) (bD h2) (cv h3) (cF (k := .u64) h4) (cv h5) (ki aY ([w,w1]:Ws)) h6)
end uc
namespace mV
theorem e0(a:au)(b:Ws)(h1:Cp 134 [a.pv] (aa b))(h2:b.length=0):Cp 93 [a.pv] (vI 0) :=
 eD Tryz.func93 87 [1,1,1] [.q,.aV [.o,(.pv (aa b)),(iI (b.length:Int))],.t,.q] (y3 h1 (an ag b) (aM h2))
theorem e1(a:au)(b:Ws)(h1:Cp 134 [a.pv] (aa b))(h2:b.length≠0)(h3:a.neg=true):Cp 93 [a.pv] (vI (-1)) :=
 eD Tryz.func93 96 [1,1,1,1] [.q,.aV [.o,(.pv (aa b)),(iI (b.length:Int))],.f,.q,.t,.q] (y4 h1 (an ag b) (aB h2) h3)
theorem e2(a:au)(b:Ws)(h1:Cp 134 [a.pv] (aa b))(h2:b.length≠0)(h3:a.neg=false):Cp 93 [a.pv] (vI 1) :=
 eD Tryz.func93 102 [1,1,1,1] [.q,.aV [.o,(.pv (aa b)),(iI (b.length:Int))],.f,.q,.f,.q] (y4 h1 (an ag b) (aB h2) h3)
end mV
namespace mn
theorem e0(a b:au)(c d:Int)(h1:Cp 93 [a.pv] (vI c))(h2:Cp 93 [b.pv] (vI d))(h3:c≠d)(h4:c<d):Cp 94 [a.pv,b.pv] (vI (-1)) :=
 eD Tryz.func94 102 [1,1,1,1] [.q,dr 4 2 [.none,(.pv (vI c)),.none,(.pv (vI d))],.q,.t,.q,.t,.q] (y4 h1 h2 (gB h3) (bY h4))
theorem e1(a b:au)(c d:Int)(h1:Cp 93 [a.pv] (vI c))(h2:Cp 93 [b.pv] (vI d))(h3:c≠d)(h4:d≤c):Cp 94 [a.pv,b.pv] (vI 1) :=
 eD Tryz.func94 105 [1,1,1,1] [.q,dr 4 2 [.none,(.pv (vI c)),.none,(.pv (vI d))],.q,.t,.q,.f,.q] (y4 h1 h2 (gB h3) (bD h4))
theorem e2(a b:au)(c d:Int)(g i:Ws)(j:Int)(k:Bool)(h1:Cp 93 [a.pv] (vI c))(h2:Cp 93 [b.pv] (vI d))(h3:c=d)(h4:Cp 134 [a.pv] (aa g))(h5:Cp 134 [b.pv] (aa i))(h6:Cp 138 [aa g,aa i] (vI j))(h7:Cp 135 [a.pv] (vB k))(h8:k=true)(h9:ax (-j)):Cp 94 [a.pv,b.pv] (vI (-j)) :=
 eD Tryz.func94 111 [1,1,1,1,1,1,1,1,1] [.q,dr 4 2 [.none,(.pv (vI c)),.none,(.pv (vI d))],.q,.f,dr 5 1 [.none,(.pv (aa g)),.none,(.pv (aa i)),(.pv (vI j))],.h 1 (.pv (vB k)),.t,.h 1 (iI (-j))] (y9 h1 h2 (gk h3) h4 h5 h6 h7 h8 (o4 h9))
theorem e3(a b:au)(c d:Int)(g i:Ws)(j:Int)(k:Bool)(h1:Cp 93 [a.pv] (vI c))(h2:Cp 93 [b.pv] (vI d))(h3:c=d)(h4:Cp 134 [a.pv] (aa g))(h5:Cp 134 [b.pv] (aa i))(h6:Cp 138 [aa g,aa i] (vI j))(h7:Cp 135 [a.pv] (vB k))(h8:k=false):Cp 94 [a.pv,b.pv] (vI j) :=
 eD Tryz.func94 114 [1,1,1,1,1,1,1,1] [.q,dr 4 2 [.none,(.pv (vI c)),.none,(.pv (vI d))],.q,.f,dr 5 1 [.none,(.pv (aa g)),.none,(.pv (aa i)),(.pv (vI j))],.h 1 (.pv (vB k)),.f,.q] (y8 h1 h2 (gk h3) h4 h5 h6 h7 h8)
end mn
namespace xx
theorem e0(a b:au)(c d:Bool)(g i j:Ws)(k:au)(h1:Cp 135 [a.pv] (vB c))(h2:Cp 135 [b.pv] (vB d))(h3:Cp 134 [a.pv] (aa g))(h4:Cp 134 [b.pv] (aa i))(h5:Cp 173 [aa g,aa i] (aa j))(h6:Cp 136 [(vB (!(c==d))),aa j] k.pv):Cp 95 [a.pv,b.pv] k.pv :=
 eD Tryz.func95 72 [1,1,1,1,1,1] [.q,dr 11 1 [.none,(.pv (vB c)),.none,(.pv (vB d)),.none,.none,(.pv (aa g)),.none,(.pv (aa i)),(.pv (aa j)),(.pv k.pv)]] (y6 h1 h2 h3 h4 h5 h6)
end xx
namespace gT
@[reducible] noncomputable def fn:Func:=Tryz.f129
noncomputable def bf:List eg:=focus [0,2,0,2,0,0,2,1,2,0,2,0,0,0] [.code (ay fn)]
def inv1(Uq:List UInt32)(CW:List ByteArray)(a:au):St:=⟨[(1,(.ptr 1 0)),(3,(.pv (aa Uq))),(4,(.pv (cT jk CW)))],[(1,(.lit [(eB a.neg),(.pv (aa a.ct))]))]⟩
@[reducible] noncomputable def ah(Uq:List UInt32)(CW:List ByteArray)(a:au)(r:PV):Prop:=L bp fn bf (inv1 Uq CW a) r
theorem e0(a:au)(b:Ws)(h1:Cp 134 [a.pv] (aa b))(h2:b.length=0):Cp 129 [a.pv] (.str (ByteArray.mk #[48])) :=
 eD Tryz.func129 90 [1,1,1] [.q,.h 1 (.pv (aa b)),.h 1 (iI (b.length:Int)),.t,.q] (y3 h1 (an ag b) (aM h2))
theorem e1(a:au)(b:Ws){r:PV}(h1:Cp 134 [a.pv] (aa b))(h2:b.length≠0)(hL:ah b [] a r):Cp 129 [a.pv] r :=
 eG Tryz.func129 102 [1,1,1] [.q,.h 1 (.pv (aa b)),.h 1 (iI (b.length:Int)),.f,.q,.aH [1,3,4]] (y3 h1 (an ag b) (aB h2)) hL
theorem cV(b:Ws)(c:List ByteArray)(a:au)(d:Ws)(g:UInt32)(i:ByteArray){r:PV}(h1:0<b.length)(h2:Cp 214 [aa b,(vW (1000000000:UInt32))] (.aE [aa d,vW g]))(h3:Cp 215 [(vI (g.toNat:Int))] (.str i))(h4:d.length≤0)(h5:(([i]++c):List ByteArray).length*16≤140737488355328)(hL:ah d ([i]++c) a r):ah b c a r :=
 lG 162 [1,1,1,1,1,1,1,6,3] [.a,.h 1 (iI (b.length:Int)),.t,.q,.h 1 (.pv (.aE [aa d,vW g])),.aV [.o,(iI (g.toNat:Int)),(.pv (.str i))],.h 1 (iI (d.length:Int)),.f,.h 3 (.app (([i]++c):List ByteArray).length ((([i]++c):List ByteArray).map jk).flatten),.fo 4 ((([i]++c):List ByteArray).map jk),.aH [1,3,4]] (y9 (an ag b) (ai h1) h2 (RD g) h3 (an ag d) (ar h4) (qj Kc ([i]:List ByteArray) (c:List ByteArray) 16 (Eq.refl ([i]:List ByteArray).length) h5 rfl) (cU Kc (([i]++c):List ByteArray) (Eq.refl (([i]++c):List ByteArray).length))) hL
theorem kI(b:Ws)(c:List ByteArray)(a:au)(d:ByteArray)(g:Bool)(h1:b.length≤0)(h2:Cp 217 [cT jk c,(.str (ByteArray.mk #[]))] (.str d))(h3:Cp 135 [a.pv] (vB g))(h4:g=true)(h5:(ByteArray.mk #[45]).size+d.size<9223372036854775808):ah b c a (.str ((ByteArray.mk #[45])++d)) :=
 lD 156 [1,1,1,1,1,1] [.a,.h 1 (iI (b.length:Int)),.f,.h 1 (.pv (.str d)),.h 1 (.pv (vB g)),.t,.h 1 (.pv (.str ((ByteArray.mk #[45])++d))),.q] (y6 (an ag b) (ar h1) h2 h3 h4 (u0 h5))
theorem ta(b:Ws)(c:List ByteArray)(a:au)(d:ByteArray)(g:Bool)(h1:b.length≤0)(h2:Cp 217 [cT jk c,(.str (ByteArray.mk #[]))] (.str d))(h3:Cp 135 [a.pv] (vB g))(h4:g=false):ah b c a (.str d) :=
 lD 156 [1,1,1,1,1] [.a,.h 1 (iI (b.length:Int)),.f,.h 1 (.pv (.str d)),.h 1 (.pv (vB g)),.f,.q] (y5 (an ag b) (ar h1) h2 h3 h4)
end gT
namespace xy
theorem e0(a b c d:au)(h1:Cp 169 [b.pv] c.pv)(h2:Cp 66 [a.pv,c.pv] d.pv):Cp 131 [a.pv,b.pv] d.pv :=
 eD Tryz.func131 72 [1,1] [.q,dr 4 1 [.none,.none,(.pv c.pv),(.pv d.pv)]] (y2 h1 h2)
end xy
namespace ov
theorem e1(a b:au)(c d g i:Ws)(j:Bool)(k l:Ws)(m n:Bool)(p s:au)(h1:Cp 134 [b.pv] (aa c))(h2:c.length≠0)(h3:Cp 134 [a.pv] (aa d))(h4:Cp 219 [aa d,aa c] (.aE [aa g,aa i]))(h5:Cp 135 [a.pv] (vB j))(h6:j=true)(h7:0<i.length)(h8:Cp 137 [aa g,(aa [(1:UInt32)])] (aa k))(h9:Cp 139 [aa c,aa i] (aa l))(ec:Cp 135 [a.pv] (vB m))(il:Cp 135 [b.pv] (vB n))(mF:Cp 136 [(vB (!(m==n))),aa k] p.pv)(u9:Cp 136 [vB false,aa l] s.pv):Cp 132 [a.pv,b.pv] (.aE [p.pv,s.pv,.az]) :=
 eD Tryz.func132 114 [1,1,1,1,1,1,1,1,1,1,1,1,3,1,1,1,1,1,1] [.q,.h 1 (.pv (aa c)),.h 1 (iI (c.length:Int)),.f,.aV [.o,(.pv (aa d)),.o,(.pv (.aE [aa g,aa i]))],.aV [.o,(.pv (vB j)),.o,.o,(iI (i.length:Int)),.o,(.dec true)],.t,.aV [.o,(.iL 0 0 (([(1:UInt32)]:Ws).map ag)),(.pv (aa k)),.o,.o,(.pv (aa l))],dr 9 3 [.none,(.pv (vB m)),.none,(.pv (vB n)),.none,.none,(.pv p.pv),.none,(.pv s.pv)]] (XL h1 (an ag c) (aB h2) h3 h4 h5 h6 h6 (an ag i) h6 h6 (ai h7) (ki aY ([(1:UInt32)]:Ws)) h8 h9 ec il mF u9)
theorem e2(a b:au)(c d g i:Ws)(j k l:Bool)(m n:au)(h1:Cp 134 [b.pv] (aa c))(h2:c.length≠0)(h3:Cp 134 [a.pv] (aa d))(h4:Cp 219 [aa d,aa c] (.aE [aa g,aa i]))(h5:Cp 135 [a.pv] (vB j))(h6:j=true)(h7:i.length≤0)(h8:Cp 135 [a.pv] (vB k))(h9:Cp 135 [b.pv] (vB l))(ec:Cp 136 [(vB (!(k==l))),aa g] m.pv)(il:Cp 136 [vB false,aa i] n.pv):Cp 132 [a.pv,b.pv] (.aE [m.pv,n.pv,.az]) :=
 eD Tryz.func132 114 [1,1,1,1,1,1,1,1,1,1,1,1,1,1,1,1] [.q,.h 1 (.pv (aa c)),.h 1 (iI (c.length:Int)),.f,.aV [.o,(.pv (aa d)),.o,(.pv (.aE [aa g,aa i]))],.aV [.o,(.pv (vB j)),.o,.o,(iI (i.length:Int)),.o,(.dec true)],.f,dr 9 3 [.none,(.pv (vB k)),.none,(.pv (vB l)),.none,.none,(.pv m.pv),.none,(.pv n.pv)]] (FB h1 (an ag c) (aB h2) h3 h4 h5 h6 h6 (an ag i) h6 h6 (ar h7) h8 h9 ec il)
theorem e3(a b:au)(c d g i:Ws)(j k l:Bool)(m n:au)(h1:Cp 134 [b.pv] (aa c))(h2:c.length≠0)(h3:Cp 134 [a.pv] (aa d))(h4:Cp 219 [aa d,aa c] (.aE [aa g,aa i]))(h5:Cp 135 [a.pv] (vB j))(h6:j=false)(h7:Cp 135 [a.pv] (vB k))(h8:Cp 135 [b.pv] (vB l))(h9:Cp 136 [(vB (!(k==l))),aa g] m.pv)(ec:Cp 136 [vB false,aa i] n.pv):Cp 132 [a.pv,b.pv] (.aE [m.pv,n.pv,.az]) :=
 eD Tryz.func132 114 [1,1,1,1,1,1,1,1,1,1,1,1,1,1] [.q,.h 1 (.pv (aa c)),.h 1 (iI (c.length:Int)),.f,.aV [.o,(.pv (aa d)),.o,(.pv (.aE [aa g,aa i]))],.aV [.o,(.pv (vB j)),.o,.skip,.skip,.skip,(.dec false)],.a,dr 9 3 [.none,(.pv (vB k)),.none,(.pv (vB l)),.none,.none,(.pv m.pv),.none,(.pv n.pv)]] (Km h1 (an ag c) (aB h2) h3 h4 h5 h6 h6 h6 h6 h7 h8 h9 ec)
end ov
namespace rI
theorem e0(a:au)(b:Bool)(h1:Cp 220 [a.pv] (vB b))(h2:b=false):Cp 134 [a.pv] (aa []) :=
 eD Tryz.func134 84 [1,1] [.q,.h 1 (.pv (vB b)),.t,.q] (y2 h1 (cf h2))
theorem e1(a:au)(b:Bool)(h1:Cp 220 [a.pv] (vB b))(h2:b=true):Cp 134 [a.pv] (aa a.ct) :=
 eD Tryz.func134 87 [1,1] [.q,.h 1 (.pv (vB b)),.f,.q] (y2 h1 (aU h2))
end rI
namespace rJ
theorem e0(a:au)(b:Bool)(h1:Cp 220 [a.pv] (vB b))(h2:b=true):Cp 135 [a.pv] (vB a.neg) :=
 eD Tryz.func135 72 [1,1,1,1] [.q,.aV [.o,(.pv (vB b)),.o,.o,.o,(.dec true)]] (y4 h1 h2 h2 h2)
theorem e1(a:au)(b:Bool)(h1:Cp 220 [a.pv] (vB b))(h2:b=false):Cp 135 [a.pv] (vB false) :=
 eD Tryz.func135 72 [1,1,1,1] [.q,.aV [.o,(.pv (vB b)),.o,.skip,.skip,(.dec false)]] (y4 h1 h2 h2 h2)
end rJ
namespace o8
theorem e0(a:Bool)(m b:Ws)(h1:Cp 221 [aa m] (aa b))(h2:a=true):Cp 136 [vB a,aa m] ((⟨(decide ((b.length:Int)>0)),b⟩:au).pv) :=
 eD Tryz.func136 78 [1,1,1,1,1,1] [.q,.h 1 (.pv (aa b)),.aV [.o,.o,.o,(iI (b.length:Int)),.o,(.dec true)]] (y6 h1 h2 h2 (an ag b) h2 h2)
theorem e1(a:Bool)(m b:Ws)(h1:Cp 221 [aa m] (aa b))(h2:a=false):Cp 136 [vB a,aa m] ((⟨false,b⟩:au).pv) :=
 eD Tryz.func136 78 [1,1,1,1,1] [.q,.h 1 (.pv (aa b)),.aV [.o,.o,.skip,.skip,.skip,(.dec false)]] (y5 h1 h2 h2 h2 h2)
end o8
namespace kW
@[reducible] noncomputable def fn:Func:=Tryz.f137
noncomputable def bf:List eg:=focus [0,2,0,2,0,2,0,0,2,0,0] [.code (ay fn)]
def inv1(a b:List UInt32)(qn Gs:Nat)(kX:List UInt32):St:=⟨[(0,(.pv (aa a))),(1,(.pv (aa b))),(5,(.row 14 0 ((max a.length b.length)+1) 1)),(6,(eU qn)),(16,(eI ((((max a.length b.length)+1):Nat):Int))),(17,(eI (Gs:Int)))],[(14,(.pure ((kX:List UInt32).map ag).flatten))]⟩
@[reducible] noncomputable def ah(a b:List UInt32)(qn Gs:Nat)(kX:List UInt32)(r:PV):Prop:=L bp fn bf (inv1 a b qn Gs kX) r
theorem e0(a b:Ws){r:PV}(h1:((max a.length b.length)+1)<9223372036854775808)(h2:4*((max a.length b.length)+1)≤140737488355328)(hL:ah a b 0 0 (List.replicate ((max a.length b.length)+1) (0:UInt32)) r):Cp 137 [aa a,aa b] r :=
 eG Tryz.func137 93 [1,1,1,1,5] [.q,.aV [.o,(iI (a.length:Int)),.o,(iI (b.length:Int)),(iI (((max a.length b.length):Nat):Int)),(iI ((((max a.length b.length)+1):Nat):Int)),(.app ((max a.length b.length)+1) ((List.replicate ((max a.length b.length)+1) (0:UInt32):Ws).map ag).flatten)],.q,.q,.aH [0,1,5,6,16,17]] (y5 (an ag a) (an ag b) (tW a.length b.length) (aL h1) (q9 ag 0 4 ((max a.length b.length)+1) (Eq.refl (((((max a.length b.length)+1):Nat):Int):Int)) h2 rfl)) hL
theorem l10(a b:Ws)(c d:Nat)(g:Ws)(i j s s1:Nat)(w:UInt32)(z:Nat){r:PV}(h1:d<((max a.length b.length)+1))(h2:Cp 222 [aa a,(vI (d:Int))] (vU i))(h3:Cp 222 [aa b,(vI (d:Int))] (vU j))(h4:(i+j)%18446744073709551616=s)(h5:(c+s)%18446744073709551616=s1)(h6:s1%4294967296=w.toNat)(h7:d<g.length)(h8:s1/2^(min 32 64)=z)(h9:(d+1)<9223372036854775808)(hL:ah a b z (d+1) (g.set d w) r):ah a b c d g r :=
 lG 144 [1,1,1,1,1,1,2,2,1,1] [.a,.q,.t,.q,.aV [.o,.o,.o,(.pv (vU i)),.o,.o,(.pv (vU j)),iU s,iU s1],.aV [.o,.o,.o,iW w,(.nat d),(.cells (.pure (((g.set d w):Ws).map ag).flatten))],.h 1 (iU z),.h 0 (iI (((d+1):Nat):Int)),.aH [0,1,5,6,16,17]] (FA (ai h1) h2 h3 (dj h4) (dj h5) (cv h6) (cj (Eq.refl (((d:Nat):Int):Int)) h1) (gm aY (g:Ws) w h7) (cF (k := .u64) h8) (aL h9)) hL
theorem cV(a b:Ws)(c d:Nat)(g i:Ws)(h1:((max a.length b.length)+1)≤d)(h2:((max a.length b.length)+1)=g.length)(h3:Cp 221 [aa g] (aa i)):ah a b c d g (aa i) :=
 lD 126 [1,3,1] [.a,.q,.f,.fo 5 ((g:Ws).map ag),.h 1 (.pv (aa i))] (y3 (ar h1) (cU aY (g:Ws) h2) h3)
end kW
namespace dE
@[reducible] noncomputable def fn:Func:=Tryz.f138
noncomputable def bf:List eg:=focus [0,2,0,0,2,1,2,0,0,2,0,0] [.code (ay fn)]
def inv1(a b:List UInt32)(zT:Int):St:=⟨[(0,(.pv (aa a))),(1,(.pv (aa b))),(5,(eI zT))],[]⟩
@[reducible] noncomputable def ah(a b:List UInt32)(zT:Int)(r:PV):Prop:=L bp fn bf (inv1 a b zT) r
theorem e0(a b:Ws)(h1:a.length≠b.length)(h2:a.length<b.length):Cp 138 [aa a,aa b] (vI (-1)) :=
 eD Tryz.func138 96 [1,1,1,1,1,1] [.q,.aV [.o,(iI (a.length:Int)),.o,(iI (b.length:Int))],.t,.aV [.o,(iI (a.length:Int)),.o,(iI (b.length:Int))],.t,.q] (y6 (an ag a) (an ag b) (jF h1) (an ag a) (an ag b) (ai h2))
theorem e1(a b:Ws)(h1:a.length≠b.length)(h2:b.length≤a.length):Cp 138 [aa a,aa b] (vI 1) :=
 eD Tryz.func138 99 [1,1,1,1,1,1] [.q,.aV [.o,(iI (a.length:Int)),.o,(iI (b.length:Int))],.t,.aV [.o,(iI (a.length:Int)),.o,(iI (b.length:Int))],.f,.q] (y6 (an ag a) (an ag b) (jF h1) (an ag a) (an ag b) (ar h2))
theorem e2(a b:Ws){r:PV}(h1:a.length=b.length)(h2:ax ((a.length:Int)-1))(hL:ah a b ((a.length:Int)-1) r):Cp 138 [aa a,aa b] r :=
 eG Tryz.func138 96 [1,1,1,1,1] [.q,.aV [.o,(iI (a.length:Int)),.o,(iI (b.length:Int))],.f,.aV [.o,(iI (a.length:Int)),(iI ((a.length:Int)-1))],.aH [0,1,5]] (y5 (an ag a) (an ag b) (gQ h1) (an ag a) (aW h2)) hL
theorem l10(a b:Ws)(c:Int)(k:Nat)(v:UInt32)(k1:Nat)(v1:UInt32)(k2:Nat)(v2:UInt32)(k3:Nat)(v3:UInt32)(h1:0≤c)(h2:c=(k:Int))(h3:a[k]? = some v)(h4:c=(k1:Int))(h5:b[k1]? = some v1)(h6:v.toNat≠v1.toNat)(h7:c=(k2:Int))(h8:a[k2]? = some v2)(h9:c=(k3:Int))(ec:b[k3]? = some v3)(il:v2.toNat<v3.toNat):ah a b c (vI (-1)) :=
 lD 147 [1,3,3,1,3,3,1] [.a,.q,.t,dr 9 0 [.none,.none,(.row k (ag v)),.none,.none,.none,(.row k1 (ag v1))],.t,dr 9 0 [.none,.none,(.row k2 (ag v2)),.none,.none,.none,(.row k3 (ag v3))],.t,.q] (y7 (eH h1) (bO ag h2 h3) (bO ag h4 h5) (jF h6) (bO ag h7 h8) (bO ag h9 ec) (ai il))
theorem cV(a b:Ws)(c:Int)(k:Nat)(v:UInt32)(k1:Nat)(v1:UInt32)(k2:Nat)(v2:UInt32)(k3:Nat)(v3:UInt32)(h1:0≤c)(h2:c=(k:Int))(h3:a[k]? = some v)(h4:c=(k1:Int))(h5:b[k1]? = some v1)(h6:v.toNat≠v1.toNat)(h7:c=(k2:Int))(h8:a[k2]? = some v2)(h9:c=(k3:Int))(ec:b[k3]? = some v3)(il:v3.toNat≤v2.toNat):ah a b c (vI 1) :=
 lD 150 [1,3,3,1,3,3,1] [.a,.q,.t,dr 9 0 [.none,.none,(.row k (ag v)),.none,.none,.none,(.row k1 (ag v1))],.t,dr 9 0 [.none,.none,(.row k2 (ag v2)),.none,.none,.none,(.row k3 (ag v3))],.f,.q] (y7 (eH h1) (bO ag h2 h3) (bO ag h4 h5) (jF h6) (bO ag h7 h8) (bO ag h9 ec) (ar il))
theorem kI(a b:Ws)(c:Int)(k:Nat)(v:UInt32)(k1:Nat)(v1:UInt32){r:PV}(h1:0≤c)(h2:c=(k:Int))(h3:a[k]? = some v)(h4:c=(k1:Int))(h5:b[k1]? = some v1)(h6:v.toNat=v1.toNat)(h7:ax (c-1))(hL:ah a b (c-1) r):ah a b c r :=
 lG 138 [1,3,3,1,1] [.a,.q,.t,dr 9 0 [.none,.none,(.row k (ag v)),.none,.none,.none,(.row k1 (ag v1))],.f,.h 1 (iI (c-1)),.aH [0,1,5]] (y5 (eH h1) (bO ag h2 h3) (bO ag h4 h5) (gQ h6) (aW h7)) hL
theorem ta(a b:Ws)(c:Int)(h1:c<0):ah a b c (vI 0) :=
 lD 129 [1] [.a,.q,.f,.q] (y1 (jO h1))
end dE
namespace kY
@[reducible] noncomputable def fn:Func:=Tryz.f139
noncomputable def bf:List eg:=focus [0,2,0,2,0,2,0,0,2,0,0] [.code (ay fn)]
def inv1(a b:List UInt32)(nC Pk:Nat)(qo:List UInt32):St:=⟨[(0,(.pv (aa a))),(1,(.pv (aa b))),(5,(.row 11 0 a.length 1)),(6,(eU nC)),(13,(eI (a.length:Int))),(14,(eI (Pk:Int)))],[(11,(.pure ((qo:List UInt32).map ag).flatten))]⟩
@[reducible] noncomputable def ah(a b:List UInt32)(nC Pk:Nat)(qo:List UInt32)(r:PV):Prop:=L bp fn bf (inv1 a b nC Pk qo) r
theorem e0(a b:Ws){r:PV}(h1:4*a.length≤140737488355328)(hL:ah a b 0 0 (List.replicate a.length (0:UInt32)) r):Cp 139 [aa a,aa b] r :=
 eG Tryz.func139 93 [1,5] [.q,.aV [.o,(iI (a.length:Int)),(.app a.length ((List.replicate a.length (0:UInt32):Ws).map ag).flatten)],.q,.q,.aH [0,1,5,6,13,14]] (y2 (an ag a) (q9 ag 0 4 a.length (Eq.refl (((a.length:Nat):Int):Int)) h1 rfl)) hL
theorem l10(a b:Ws)(c g:Nat)(i:Ws)(v:UInt32)(j d d1:Nat)(w:UInt32)(z:Nat){r:PV}(h1:g<a.length)(h2:a[g]? = some v)(h3:Cp 222 [aa b,(vI (g:Int))] (vU j))(h4:((v.toNat:Nat)-(j:Nat):Int)%18446744073709551616=(d:Int))(h5:((d:Nat)-(c:Nat):Int)%18446744073709551616=(d1:Int))(h6:d1%4294967296=w.toNat)(h7:g<i.length)(h8:d1/2^(min 63 64)=z)(h9:(g+1)<9223372036854775808)(hL:ah a b z (g+1) (i.set g w) r):ah a b c g i r :=
 lG 144 [1,3,1,1,1,1,1,2,2,1,1] [.a,.q,.t,.q,dr 11 1 [.none,.none,(.row g (ag v)),.none,iU v.toNat,.none,.none,(.pv (vU j)),iU d,.none,iU d1],.aV [.o,.o,.o,iW w,(.nat g),(.cells (.pure (((i.set g w):Ws).map ag).flatten))],.h 1 (iU z),.h 0 (iI (((g+1):Nat):Int)),.aH [0,1,5,6,13,14]] (BL (ai h1) (bO ag (Eq.refl (((g:Nat):Int):Int)) h2) (mg v) h3 (c9 h4) (c9 h5) (cv h6) (cj (Eq.refl (((g:Nat):Int):Int)) h1) (gm aY (i:Ws) w h7) (cF (k := .u64) h8) (aL h9)) hL
theorem cV(a b:Ws)(c d:Nat)(g i:Ws)(h1:a.length≤d)(h2:a.length=g.length)(h3:Cp 221 [aa g] (aa i)):ah a b c d g (aa i) :=
 lD 126 [1,3,1] [.a,.q,.f,.fo 5 ((g:Ws).map ag),.h 1 (.pv (aa i))] (y3 (ar h1) (cU aY (g:Ws) h2) h3)
end kY
namespace xz
theorem e0(a:au)(b:Bool)(c:Ws)(d:au)(h1:Cp 135 [a.pv] (vB b))(h2:Cp 134 [a.pv] (aa c))(h3:Cp 136 [(vB (!b)),aa c] d.pv):Cp 169 [a.pv] d.pv :=
 eD Tryz.func169 72 [1,1,1] [.q,dr 6 1 [.none,(.pv (vB b)),.none,.none,(.pv (aa c)),(.pv d.pv)]] (y3 h1 h2 h3)
end xz
namespace eJ
@[reducible] noncomputable def fn:Func:=Tryz.f173
noncomputable def bf:List eg:=focus [0,2,0,2,0,0,2,0,0] [.code (ay fn)]
def inv1(b a:List UInt32)(ud:Nat)(j5:List UInt32):St:=⟨[(1,(.pv (aa b))),(5,(.row 16 0 (a.length+b.length) 1)),(17,(.pv (aa a))),(18,(eI (a.length:Int))),(19,(eI (ud:Int)))],[(16,(.pure ((j5:List UInt32).map ag).flatten))]⟩
@[reducible] noncomputable def ah(b a:List UInt32)(ud:Nat)(j5:List UInt32)(r:PV):Prop:=L bp fn bf (inv1 b a ud j5) r
noncomputable def nD:List eg:=focus [0,2,0,2,0,0,2,0,0,0,0,2,0,0,2,0,0,0,2,0,2,0,0,2,0,0] [.code (ay fn)]
def inv2(b a:List UInt32)(Ks:Nat)(v:UInt32)(CX ud Pm:Nat)(j5:List UInt32):St:=⟨[(1,(.pv (aa b))),(5,(.row 16 0 (a.length+b.length) 1)),(6,(eI (Ks:Int))),(7,(eW v)),(8,(eU CX)),(17,(.pv (aa a))),(18,(eI (a.length:Int))),(19,(eI (ud:Int))),(24,(.pv (aa b))),(25,(eI (b.length:Int))),(26,(eI (Pm:Int)))],[(16,(.pure ((j5:List UInt32).map ag).flatten))]⟩
@[reducible] noncomputable def bA(b a:List UInt32)(Ks:Nat)(v:UInt32)(CX ud Pm:Nat)(j5:List UInt32)(r:PV):Prop:=L bp fn nD (inv2 b a Ks v CX ud Pm j5) r
theorem e0(a b:Ws){r:PV}(h1:(a.length+b.length)<9223372036854775808)(h2:4*(a.length+b.length)≤140737488355328)(hL:ah b a 0 (List.replicate (a.length+b.length) (0:UInt32)) r):Cp 173 [aa a,aa b] r :=
 eG Tryz.func173 87 [1,1,1,5,1] [.q,.aV [.o,(iI (a.length:Int)),.o,(iI (b.length:Int)),(iI (((a.length+b.length):Nat):Int)),(.app (a.length+b.length) ((List.replicate (a.length+b.length) (0:UInt32):Ws).map ag).flatten)],.h 1 (iI (a.length:Int)),.aH [1,5,17,18,19]] (y5 (an ag a) (an ag b) (aL h1) (q9 ag 0 4 (a.length+b.length) (Eq.refl ((((a.length+b.length):Nat):Int):Int)) h2 rfl) (an ag a)) hL
theorem l10(b a:Ws)(c:Nat)(d:Ws)(v:UInt32){r:PV}(h1:c<a.length)(h2:a[c]? = some v)(hL:bA b a c v 0 c 0 d r):ah b a c d r :=
 lG 138 [1,3,1] [.a,.q,.t,.h 1 (.row c (ag v)),.q,.h 1 (iI (b.length:Int)),.aH [1,5,6,7,8,17,18,19,24,25,26]] (y3 (ai h1) (bO ag (Eq.refl (((c:Nat):Int):Int)) h2) (an ag b)) hL
theorem cV(b a:Ws)(c:Nat)(d g:Ws)(h1:a.length≤c)(h2:(a.length+b.length)=d.length)(h3:Cp 221 [aa d] (aa g)):ah b a c d (aa g) :=
 lD 120 [1,3,1] [.a,.q,.f,.fo 5 ((d:Ws).map ag),.h 1 (.pv (aa g))] (y3 (ar h1) (cU aY (d:Ws) h2) h3)
theorem yj(b a:Ws)(c:Nat)(v:UInt32)(d g i:Nat)(j:Ws)(v1:UInt32)(p:Nat)(v2:UInt32)(s s1:Nat)(w:UInt32)(z:Nat){r:PV}(h1:i<b.length)(h2:b[i]? = some v1)(h3:(v.toNat*v1.toNat)%18446744073709551616=p)(h4:(c+i)<9223372036854775808)(h5:(c+i)<(a.length+b.length))(h6:j[(c+i)]? = some v2)(h7:(p+v2.toNat)%18446744073709551616=s)(h8:(d+s)%18446744073709551616=s1)(h9:s1%4294967296=w.toNat)(ec:(c+i)<j.length)(il:s1/2^(min 32 64)=z)(mF:(i+1)<9223372036854775808)(hL:bA b a c v z g (i+1) (j.set (c+i) w) r):bA b a c v d g i j r :=
 lG 189 [1,3,1,1,1,1,2,1,1,1,1,1,1,2,2,1,1] [.a,.q,.t,.h 1 (.row i (ag v1)),.aV [.o,.o,iU v.toNat,.o,iU v1.toNat,iU p,.o,.o,.o,(iI (((c+i):Nat):Int)),(.nat (c+i)),(.ev (.pv (vW v2))),iU v2.toNat,iU s,iU s1],.aV [.o,.o,.o,(iI (((c+i):Nat):Int)),.o,iW w,(.nat (c+i)),(.cells (.pure (((j.set (c+i) w):Ws).map ag).flatten))],.h 1 (iU z),.h 0 (iI (((i+1):Nat):Int)),.aH [1,5,6,7,8,17,18,19,24,25,26]] (Pf (ai h1) (bO ag (Eq.refl (((i:Nat):Int):Int)) h2) (mg v) (mg v1) (lQ h3) (aL h4) (cj (Eq.refl ((((c+i):Nat):Int):Int)) h5) (fj (enc:=ag) (f:=fun a=>(vW a)) (fun _=>rfl) h6) (mg v2) (dj h7) (dj h8) (aL h4) (cv h9) (cj (Eq.refl ((((c+i):Nat):Int):Int)) h5) (gm aY (j:Ws) w ec) (cF (k := .u64) il) (aL mF)) hL
theorem Be(b a:Ws)(c:Nat)(v:UInt32)(d g i:Nat)(j:Ws)(w:UInt32){r:PV}(h1:b.length≤i)(h2:(c+b.length)<9223372036854775808)(h3:d%4294967296=w.toNat)(h4:(c+b.length)<(a.length+b.length))(h5:(c+b.length)<j.length)(h6:(g+1)<9223372036854775808)(hL:ah b a (g+1) (j.set (c+b.length) w) r):bA b a c v d g i j r :=
 lG 174 [1,1,1,1,2,2,1] [.a,.q,.f,.aV [.o,.o,.o,(iI (b.length:Int)),(iI (((c+b.length):Nat):Int)),.o,iW w,(.nat (c+b.length)),(.cells (.pure (((j.set (c+b.length) w):Ws).map ag).flatten))],.h 0 (iI (((g+1):Nat):Int)),.aH [1,5,17,18,19]] (y7 (ar h1) (an ag b) (aL h2) (cv h3) (cj (Eq.refl ((((c+b.length):Nat):Int):Int)) h4) (gm aY (j:Ws) w h5) (aL h6)) hL
end eJ
namespace kA
@[reducible] noncomputable def fn:Func:=Tryz.f192
noncomputable def bf:List eg:=focus [0,2,0,2,0,0,0] [.code (ay fn)]
def inv1(Ur Ut:List UInt32):St:=⟨[(4,(.ptr 4 0)),(5,(.pv (aa Ur))),(6,(.pv (aa Ut)))],[(4,(.lit [(eB false),(.pv (.list []))]))]⟩
@[reducible] noncomputable def ah(Ur Ut:List UInt32)(r:PV):Prop:=L bp fn bf (inv1 Ur Ut) r
theorem e0(a b:au)(c d:Ws){r:PV}(h1:Cp 134 [a.pv] (aa c))(h2:Cp 134 [b.pv] (aa d))(hL:ah c d r):Cp 192 [a.pv,b.pv] r :=
 eG Tryz.func192 81 [1,1] [.q,dr 4 2 [.none,(.pv (aa c)),.none,(.pv (aa d))],.aH [4,5,6],.drop [3,2]] (y2 h1 h2) hL
theorem l10(b c d g:Ws){r:PV}(h1:0<c.length)(h2:Cp 219 [aa b,aa c] (.aE [aa d,aa g]))(hL:ah c g r):ah b c r :=
 lG 114 [1,1,1] [.a,.h 1 (iI (c.length:Int)),.t,.h 2 (.pv (.aE [aa d,aa g])),.q,.aH [4,5,6]] (y3 (an ag c) (ai h1) h2) hL
theorem cV(b c:Ws)(d:au)(h1:c.length≤0)(h2:Cp 136 [vB false,aa b] d.pv):ah b c d.pv :=
 lD 114 [1,1,1] [.a,.h 1 (iI (c.length:Int)),.f,.h 1 (.pv d.pv)] (y3 (an ag c) (ar h1) h2)
end kA
namespace jR
@[reducible] noncomputable def fn:Func:=Tryz.f214
noncomputable def bf:List eg:=focus [0,2,0,2,0,2,0,0,2,0,0] [.code (ay fn)]
def inv1(a:List UInt32)(b:UInt32)(ue:Nat)(Gt:Int)(qo:List UInt32):St:=⟨[(0,(.pv (aa a))),(1,(eW b)),(6,(.row 11 0 a.length 1)),(7,(eU ue)),(8,(eI Gt))],[(11,(.pure ((qo:List UInt32).map ag).flatten))]⟩
@[reducible] noncomputable def ah(a:List UInt32)(b:UInt32)(ue:Nat)(Gt:Int)(qo:List UInt32)(r:PV):Prop:=L bp fn bf (inv1 a b ue Gt qo) r
theorem e0(a:Ws)(b:UInt32){r:PV}(h1:4*a.length≤140737488355328)(h2:ax ((a.length:Int)-1))(hL:ah a b 0 ((a.length:Int)-1) (List.replicate a.length (0:UInt32)) r):Cp 214 [aa a,vW b] r :=
 eG Tryz.func214 93 [1,5,1,1] [.q,.aV [.o,(iI (a.length:Int)),(.app a.length ((List.replicate a.length (0:UInt32):Ws).map ag).flatten)],.q,.aV [.o,(iI (a.length:Int)),(iI ((a.length:Int)-1))],.aH [0,1,6,7,8]] (y4 (an ag a) (q9 ag 0 4 a.length (Eq.refl (((a.length:Nat):Int):Int)) h1 rfl) (an ag a) (aW h2)) hL
theorem l10(a:Ws)(b:UInt32)(c:Nat)(d:Int)(g:Ws)(z k:Nat)(v:UInt32)(z1 q:Nat)(w:UInt32)(k1 m:Nat){r:PV}(h1:0≤d)(h2:(c*2^(min 32 64))%18446744073709551616=z)(h3:d=(k:Int))(h4:a[k]? = some v)(h5:(z%18446744073709551616) ||| (v.toNat%18446744073709551616)=z1)(h6:b.toNat≠0)(h7:(z1/b.toNat)%18446744073709551616=q)(h8:q%4294967296=w.toNat)(h9:d=(k1:Int))(ec:k1<a.length)(il:k1<g.length)(mF:z1%b.toNat=m)(u9:ax (d-1))(hL:ah a b m (d-1) (g.set k1 w) r):ah a b c d g r :=
 lG 138 [1,1,3,1,1,1,1,1,2,2,1,1,1] [.a,.q,.t,.aV [.o,iU z,.o,.o,(.row k (ag v)),.o,iU v.toNat,iU z1],.aV [.o,.o,.o,.o,iU b.toNat,iU q,iW w,(.nat k1),(.cells (.pure (((g.set k1 w):Ws).map ag).flatten))],.aV [.o,.o,iU b.toNat,iU m],.h 1 (iI (d-1)),.aH [0,1,6,7,8]] (Ht (eH h1) (gP (k := .u64) h2) (bO ag h3 h4) (mg v) (lR h5) (mg b) (zH h6 h7) (cv h8) (cj h9 ec) (gm aY (g:Ws) w il) (mg b) (zI h6 mF) (aW u9)) hL
theorem cV(a:Ws)(b:UInt32)(c:Nat)(d:Int)(g i:Ws)(w:UInt32)(h1:d<0)(h2:a.length=g.length)(h3:Cp 221 [aa g] (aa i))(h4:c%4294967296=w.toNat):ah a b c d g (.aE [aa i,vW w]) :=
 lD 126 [1,3,1,1] [.a,.q,.f,.fo 6 ((g:Ws).map ag),.aV [.o,(.pv (aa i)),.o,iW w]] (y4 (jO h1) (cU aY (g:Ws) h2) h3 (cv h4))
end jR
namespace bq
@[reducible] noncomputable def fn:Func:=Tryz.f219
noncomputable def bf:List eg:=focus [0,2,0,0,2,1,2,0,0,2,1,2,0,2,0,2,0,2,0,2,0,0,2,0,0] [.code (ay fn)]
def inv1(Pn:Int)(up b:List UInt32)(n m:Nat)(v1 v2:UInt32)(Gu:Int)(qp qq:List UInt32):St:=⟨[(8,(eI Pn)),(9,(.pv (aa (up.take b.length)))),(10,(.row 55 0 n 1)),(11,(.row 61 0 m 1)),(12,(eU v1.toNat)),(13,(eU v2.toNat)),(14,(eI Gu))],[(55,(.pure ((qp:List UInt32).map ag).flatten)),(61,(.pure ((qq:List UInt32).map ag).flatten))]⟩
@[reducible] noncomputable def ah(Pn:Int)(up b:List UInt32)(n m:Nat)(v1 v2:UInt32)(Gu:Int)(qp qq:List UInt32)(r:PV):Prop:=L bp fn bf (inv1 Pn up b n m v1 v2 Gu qp qq) r
noncomputable def nD:List eg:=focus [0,2,0,0,2,1,2,0,0,2,1,2,0,2,0,2,0,2,0,2,0,0,2,0,0,0,0,0,2,0,2,0,0,0,2,0,2,0,2,0,0,0] [.code (ay fn)]
def inv2(Pn:Int)(up b:List UInt32)(n m:Nat)(v1 v2:UInt32)(Gu:Int)(l u zU CY:Nat)(qp qq:List UInt32):St:=⟨[(8,(eI Pn)),(9,(.pv (aa (up.take b.length)))),(10,(.row 55 0 n 1)),(11,(.row 61 0 m 1)),(12,(eU v1.toNat)),(13,(eU v2.toNat)),(14,(eI Gu)),(15,(.row 55 (0+l*1) (u-l) 1)),(17,(eU zU)),(18,(eU CY))],[(55,(.pure ((qp:List UInt32).map ag).flatten)),(61,(.pure ((qq:List UInt32).map ag).flatten))]⟩
@[reducible] noncomputable def bA(Pn:Int)(up b:List UInt32)(n m:Nat)(v1 v2:UInt32)(Gu:Int)(l u zU CY:Nat)(qp qq:List UInt32)(r:PV):Prop:=L bp fn nD (inv2 Pn up b n m v1 v2 Gu l u zU CY qp qq) r
theorem e0(a b:Ws)(c:Int)(d:Ws)(h1:Cp 138 [aa a,aa b] (vI c))(h2:c<0)(h3:Cp 221 [aa a] (aa d)):Cp 219 [aa a,aa b] (.aE [(aa []),aa d]) :=
 eD Tryz.func219 84 [1,1,1] [.q,.h 2 (.pv (vI c)),.t,.h 1 (.pv (aa d))] (y3 h1 (bY h2) h3)
theorem e1(a b:Ws)(c:Int)(v:UInt32)(d:Ws)(g:UInt32)(i:Ws)(h1:Cp 138 [aa a,aa b] (vI c))(h2:0≤c)(h3:b.length=1)(h4:b[0]? = some v)(h5:Cp 214 [aa a,vW v] (.aE [aa d,vW g]))(h6:Cp 221 [(aa [g])] (aa i)):Cp 219 [aa a,aa b] (.aE [aa d,aa i]) :=
 eD Tryz.func219 105 [1,1,1,1,3,1,3,1] [.q,.h 2 (.pv (vI c)),.f,.h 1 (iI (b.length:Int)),.t,.aV [.o,.o,(.row 0 (ag v)),.o,(.pv (.aE [aa d,vW g]))],.aV [.o,.o,(.iL 0 0 (([g]:Ws).map ag)),(.pv (aa i))]] (y8 h1 (bD h2) (an ag b) (aM h3) (bO ag (Eq.refl (0:Int)) h4) h5 (ki aY ([g]:Ws)) h6)
theorem e2(a b:Ws)(c:Int)(k:Nat)(v:UInt32)(d:Int)(up z:Ws)(n m k1:Nat)(v1:UInt32)(k2:Nat)(v2:UInt32){r:PV}(h1:Cp 138 [aa a,aa b] (vI c))(h2:0≤c)(h3:b.length≠1)(h4:ax ((b.length:Int)-1))(h5:((b.length:Int)-1)=(k:Int))(h6:b[k]? = some v)(h7:Cp 269 [vW v] (vI d))(h8:Cp 270 [aa b,vI d] (aa up))(h9:b.length≤up.length)(ec:av bp 270 [.pv (aa a),.pv (vI d)] [] (.row 0 0 n 1) [(0,(.pure ((z:Ws).map ag).flatten))])(il:ax ((n:Int)-(((up.take b.length).length:Nat):Int)))(mF:((n:Int)-(((up.take b.length).length:Nat):Int))=(m:Int))(u9:4*m≤140737488355328)(EC:ax ((((up.take b.length).length:Nat):Int)-1))(FC:((((up.take b.length).length:Nat):Int)-1)=(k1:Int))(Im:(up.take b.length)[k1]? = some v1)(FD:ax ((((up.take b.length).length:Nat):Int)-2))(L9:((((up.take b.length).length:Nat):Int)-2)=(k2:Int))(IM:(up.take b.length)[k2]? = some v2)(RN:ax ((m:Int)-1))(hL:ah d up b n m v1 v2 ((m:Int)-1) z (List.replicate m (0:UInt32)) r):Cp 219 [aa a,aa b] r :=
 eG Tryz.func219 135 [1,1,1,1,1,1,3,1,1,1,6,1,1,1,5,1,1,3,1,1,1,3,1,1] [.q,.h 2 (.pv (vI c)),.f,.h 1 (iI (b.length:Int)),.f,.aV [.o,.o,(iI (b.length:Int)),(iI ((b.length:Int)-1)),(.row k (ag v)),.o,(.pv (vI d))],dr 9 2 [.none,.none,(.pv (aa up)),.none,(iI (b.length:Int)),(.iL 0 b.length (((up.take b.length):Ws).map ag)),.none,.none,(.bG [] (some (0,55)) (.row 0 0 n 1) [(0,(.pure ((z:Ws).map ag).flatten))])],.aV [.o,.o,.o,(iI (((up.take b.length).length:Nat):Int)),(iI ((n:Int)-(((up.take b.length).length:Nat):Int))),(.app m ((List.replicate m (0:UInt32):Ws).map ag).flatten)],dr 15 1 [.none,.none,(iI (((up.take b.length).length:Nat):Int)),(iI ((((up.take b.length).length:Nat):Int)-1)),(.row k1 (ag v1)),.none,iU v1.toNat,.none,.none,(iI (((up.take b.length).length:Nat):Int)),(iI ((((up.take b.length).length:Nat):Int)-2)),(.row k2 (ag v2)),.none,iU v2.toNat],.h 2 (iI ((m:Int)-1)),.aH [8,9,10,11,12,13,14],.ord [55,61]] (Ul h1 (bD h2) (an ag b) (aB h3) (an ag b) (aW h4) (bO ag h5 h6) h7 h8 (an ag b) (u6 aY (up:Ws) (Eq.refl (((b.length:Nat):Int):Int)) h9) ec (an ag (up.take b.length)) (aW il) (q9 ag 0 4 m mF u9 rfl) (an ag (up.take b.length)) (aW EC) (bO ag FC Im) (mg v1) (an ag (up.take b.length)) (aW FD) (bO ag L9 IM) (mg v2) (aW RN)) hL
theorem l10(c:Int)(up b:Ws)(n m:Nat)(v1 v2:UInt32)(d:Int)(g i:Ws)(l u:Nat)(v:UInt32)(z k:Nat)(v3:UInt32)(z1 q m1:Nat){r:PV}(h1:0≤d)(h2:ax (d+(((up.take b.length).length:Nat):Int)))(h3:ax ((d+(((up.take b.length).length:Nat):Int))+1))(h4:d=(l:Int))(h5:((d+(((up.take b.length).length:Nat):Int))+1)=(u:Int))(h6:l=0∨l<u)(h7:l≤u)(h8:u≤n)(h9:(up.take b.length).length<(u-l))(ec:g[(0+l*1)+((up.take b.length).length)]? = some v)(il:(v.toNat*2^(min 32 64))%18446744073709551616=z)(mF:ax ((((up.take b.length).length:Nat):Int)-1))(u9:((((up.take b.length).length:Nat):Int)-1)=(k:Int))(EC:k<(u-l))(FC:g[(0+l*1)+k]? = some v3)(Im:(z%18446744073709551616) ||| (v3.toNat%18446744073709551616)=z1)(FD:v1.toNat≠0)(L9:(z1/v1.toNat)%18446744073709551616=q)(IM:z1%v1.toNat=m1)(hL:bA c up b n m v1 v2 d l u q m1 g i r):ah c up b n m v1 v2 d g i r :=
 lG 186 [1,1,1,1,5,1,2,1,1,1,1,1,2,1,1,1,1,1] [.a,.q,.t,.aV [.o,.o,.o,.o,(iI (((up.take b.length).length:Nat):Int)),(iI (d+(((up.take b.length).length:Nat):Int))),(iI ((d+(((up.take b.length).length:Nat):Int))+1)),(.iL l u [])],dr 15 1 [.none,.none,(iI (((up.take b.length).length:Nat):Int)),(.nat ((up.take b.length).length)),(.ev (.pv (vW v))),iU v.toNat,iU z,.none,.none,(iI (((up.take b.length).length:Nat):Int)),(iI ((((up.take b.length).length:Nat):Int)-1)),(.nat k),(.ev (.pv (vW v3))),iU v3.toNat,iU z1],dr 7 1 [.none,.none,iU q,.none,.none,iU m1],.aH [8,9,10,11,12,13,14,15,17,18]] (RL (eH h1) (an ag (up.take b.length)) (o0 h2) (o0 h3) (RJ h4 h5 h6 h7 h8) (an ag (up.take b.length)) (cj (Eq.refl ((((up.take b.length).length:Nat):Int):Int)) h9) (tX (enc:=ag) (f:=fun a=>(vW a)) (fun _=>rfl) ec) (mg v) (gP (k := .u64) il) (an ag (up.take b.length)) (aW mF) (cj u9 EC) (tX (enc:=ag) (f:=fun a=>(vW a)) (fun _=>rfl) FC) (mg v3) (lR Im) (zH FD L9) (zI FD IM)) hL
theorem cV(c:Int)(up b:Ws)(n m:Nat)(v1 v2:UInt32)(d:Int)(g i j k:Ws)(h1:d<0)(h2:m=i.length)(h3:n=g.length)(h4:Cp 221 [aa i] (aa j))(h5:Cp 273 [aa g,vI c] (aa k)):ah c up b n m v1 v2 d g i (.aE [aa j,aa k]) :=
 lD 168 [1,3,3,1,1] [.a,.q,.f,.fo 11 ((i:Ws).map ag),.fo 10 ((g:Ws).map ag),.aV [.o,(.pv (aa j)),.o,.o,(.pv (aa k))]] (y5 (jO h1) (cU aY (i:Ws) h2) (cU aY (g:Ws) h3) h4 h5)
theorem yj(c:Int)(up b:Ws)(n m:Nat)(v1 v2:UInt32)(g:Int)(l u i j:Nat)(k p:Ws)(d s:Nat){r:PV}(h1:j<4294967296)(h2:4294967296≤i)(h3:((i:Nat)-(1:Nat):Int)%18446744073709551616=(d:Int))(h4:(j+v1.toNat)%18446744073709551616=s)(hL:bA c up b n m v1 v2 g l u d s k p r):bA c up b n m v1 v2 g l u i j k p r :=
 lG 219 [1,1,1,1,1,1,1,1,1,1,1,1,1,1,1,1,1,1,1,1,1,1] [.a,.aV [.o,.o,.o,.o,.o,.o,.skip,.skip,.skip,.skip,.skip,.skip,.skip,.skip,.skip,.skip,.skip,.skip,.skip,.skip,(.dec true),(.dec true)],.a,.h 1 (iU d),.h 2 (iU s),.aH [8,9,10,11,12,13,14,15,17,18]] (Wg (ai h1) (ai h1) (ai h1) (da h2) (da h2) (da h2) (da h2) (da h2) (da h2) (da h2) (da h2) (da h2) (da h2) (da h2) (da h2) (da h2) (da h2) (ai h1) (da h2) (ai h1) (c9 h3) (dj h4)) hL
theorem Be(c:Int)(up b:Ws)(n m:Nat)(v1 v2:UInt32)(g:Int)(l u i j:Nat)(q w:Ws)(p z k:Nat)(v:UInt32)(z1 d s:Nat){r:PV}(h1:j<4294967296)(h2:i<4294967296)(h3:(i*v2.toNat)%18446744073709551616=p)(h4:(j*2^(min 32 64))%18446744073709551616=z)(h5:ax ((((up.take b.length).length:Nat):Int)-2))(h6:((((up.take b.length).length:Nat):Int)-2)=(k:Int))(h7:k<(u-l))(h8:q[(0+l*1)+k]? = some v)(h9:(z%18446744073709551616) ||| (v.toNat%18446744073709551616)=z1)(ec:z1<p)(il:((i:Nat)-(1:Nat):Int)%18446744073709551616=(d:Int))(mF:(j+v1.toNat)%18446744073709551616=s)(hL:bA c up b n m v1 v2 g l u d s q w r):bA c up b n m v1 v2 g l u i j q w r :=
 lG 219 [1,1,1,1,1,1,1,1,1,1,1,1,1,1,1,1,1,2,1,1,1,1,1,1,1,1,1,1,1,1,1] [.a,.aV [.o,.o,.o,.o,.o,.o,.o,.o,iU p,.o,iU z,.o,.o,(iI (((up.take b.length).length:Nat):Int)),(iI ((((up.take b.length).length:Nat):Int)-2)),(.nat k),(.ev (.pv (vW v))),iU v.toNat,iU z1,.o,(.dec false),(.dec true)],.t,.h 1 (iU d),.h 2 (iU s),.aH [8,9,10,11,12,13,14,15,17,18]] (Un (ai h1) (ai h1) (ai h1) (bH h2) (bH h2) (bH h2) (lQ h3) (bH h2) (bH h2) (gP (k := .u64) h4) (bH h2) (bH h2) (bH h2) (an ag (up.take b.length)) (bH h2) (aW h5) (bH h2) (cj h6 h7) (bH h2) (tX (enc:=ag) (f:=fun a=>(vW a)) (fun _=>rfl) h8) (bH h2) (mg v) (bH h2) (lR h9) (bH h2) (ai h1) (bH h2) (ai h1) (ai ec) (c9 il) (dj mF)) hL
theorem Kt(c:Int)(up b:Ws)(n m:Nat)(v1 v2:UInt32)(g:Int)(l u i j:Nat)(q s:Ws)(p z k:Nat)(v:UInt32)(z1:Nat)(z2:Ws)(x:Bool)(d:Nat)(z3:Ws)(w:UInt32)(k1:Nat){r:PV}(h1:j<4294967296)(h2:i<4294967296)(h3:(i*v2.toNat)%18446744073709551616=p)(h4:(j*2^(min 32 64))%18446744073709551616=z)(h5:ax ((((up.take b.length).length:Nat):Int)-2))(h6:((((up.take b.length).length:Nat):Int)-2)=(k:Int))(h7:k<(u-l))(h8:q[(0+l*1)+k]? = some v)(h9:(z%18446744073709551616) ||| (v.toNat%18446744073709551616)=z1)(ec:p≤z1)(il:av bp 271 [.row 100000 (0+l*1) (u-l) 1,.pv (aa (up.take b.length)),.pv (vU i)] [(100000,(.pure ((q:Ws).map ag).flatten))] (.pv (vB x)) [(100000,(.pure ((z2:Ws).map ag).flatten))])(mF:x=true)(u9:((i:Nat)-(1:Nat):Int)%18446744073709551616=(d:Int))(EC:av bp 272 [.row 100000 (0+l*1) (u-l) 1,.pv (aa (up.take b.length))] [(100000,(.pure ((z2:Ws).map ag).flatten))] (.pv (.aE [])) [(100000,(.pure ((z3:Ws).map ag).flatten))])(FC:d%4294967296=w.toNat)(Im:g=(k1:Int))(FD:k1<m)(L9:k1<s.length)(IM:ax (g-1))(hL:ah c up b n m v1 v2 (g-1) z3 (s.set k1 w) r):bA c up b n m v1 v2 g l u i j q s r :=
 lG 243 [1,1,1,1,1,1,1,1,1,1,1,1,1,1,1,1,1,2,1,1,1,1,1,1,1,1,1,1,1,1,1,1,1,1,2,2,1] [.a,.aV [.o,.o,.o,.o,.o,.o,.o,.o,iU p,.o,iU z,.o,.o,(iI (((up.take b.length).length:Nat):Int)),(iI ((((up.take b.length).length:Nat):Int)-2)),(.nat k),(.ev (.pv (vW v))),iU v.toNat,iU z1,.o,(.dec false),(.dec true)],.f,.h 3 (.bG [(55,100000)] none (.pv (vB x)) [(100000,(.pure ((z2:Ws).map ag).flatten))]),.t,.h 1 (iU d),.h 2 (.bG [(55,100000)] none (.pv (.aE [])) [(100000,(.pure ((z3:Ws).map ag).flatten))]),.aV [.o,.o,.o,iW w,(.nat k1),(.cells (.pure (((s.set k1 w):Ws).map ag).flatten))],.h 1 (iI (g-1)),.aH [8,9,10,11,12,13,14]] (Wi (ai h1) (ai h1) (ai h1) (bH h2) (bH h2) (bH h2) (lQ h3) (bH h2) (bH h2) (gP (k := .u64) h4) (bH h2) (bH h2) (bH h2) (an ag (up.take b.length)) (bH h2) (aW h5) (bH h2) (cj h6 h7) (bH h2) (tX (enc:=ag) (f:=fun a=>(vW a)) (fun _=>rfl) h8) (bH h2) (mg v) (bH h2) (lR h9) (bH h2) (ai h1) (bH h2) (ai h1) (ar ec) il mF (c9 u9) EC (cv FC) (cj Im FD) (gm aY (s:Ws) w L9) (aW IM)) hL
theorem XV(c:Int)(up b:Ws)(n m:Nat)(v1 v2:UInt32)(d:Int)(l u g i:Nat)(j q:Ws)(p z k:Nat)(v:UInt32)(z1:Nat)(z2:Ws)(s:Bool)(w:UInt32)(k1:Nat){r:PV}(h1:i<4294967296)(h2:g<4294967296)(h3:(g*v2.toNat)%18446744073709551616=p)(h4:(i*2^(min 32 64))%18446744073709551616=z)(h5:ax ((((up.take b.length).length:Nat):Int)-2))(h6:((((up.take b.length).length:Nat):Int)-2)=(k:Int))(h7:k<(u-l))(h8:j[(0+l*1)+k]? = some v)(h9:(z%18446744073709551616) ||| (v.toNat%18446744073709551616)=z1)(ec:p≤z1)(il:av bp 271 [.row 100000 (0+l*1) (u-l) 1,.pv (aa (up.take b.length)),.pv (vU g)] [(100000,(.pure ((j:Ws).map ag).flatten))] (.pv (vB s)) [(100000,(.pure ((z2:Ws).map ag).flatten))])(mF:s=false)(u9:g%4294967296=w.toNat)(EC:d=(k1:Int))(FC:k1<m)(Im:k1<q.length)(FD:ax (d-1))(hL:ah c up b n m v1 v2 (d-1) z2 (q.set k1 w) r):bA c up b n m v1 v2 d l u g i j q r :=
 lG 237 [1,1,1,1,1,1,1,1,1,1,1,1,1,1,1,1,1,2,1,1,1,1,1,1,1,1,1,1,1,1,1,1,2,2,1] [.a,.aV [.o,.o,.o,.o,.o,.o,.o,.o,iU p,.o,iU z,.o,.o,(iI (((up.take b.length).length:Nat):Int)),(iI ((((up.take b.length).length:Nat):Int)-2)),(.nat k),(.ev (.pv (vW v))),iU v.toNat,iU z1,.o,(.dec false),(.dec true)],.f,.h 3 (.bG [(55,100000)] none (.pv (vB s)) [(100000,(.pure ((z2:Ws).map ag).flatten))]),.f,.aV [.o,.o,.o,iW w,(.nat k1),(.cells (.pure (((q.set k1 w):Ws).map ag).flatten))],.h 1 (iI (d-1)),.aH [8,9,10,11,12,13,14]] (XP (ai h1) (ai h1) (ai h1) (bH h2) (bH h2) (bH h2) (lQ h3) (bH h2) (bH h2) (gP (k := .u64) h4) (bH h2) (bH h2) (bH h2) (an ag (up.take b.length)) (bH h2) (aW h5) (bH h2) (cj h6 h7) (bH h2) (tX (enc:=ag) (f:=fun a=>(vW a)) (fun _=>rfl) h8) (bH h2) (mg v) (bH h2) (lR h9) (bH h2) (ai h1) (bH h2) (ai h1) (ar ec) il mF (cv u9) (cj EC FC) (gm aY (q:Ws) w Im) (aW FD)) hL
theorem Wk(c:Int)(up b:Ws)(n m:Nat)(v1 v2:UInt32)(g:Int)(l u i j:Nat)(p q z:Ws)(s:Bool)(d:Nat)(z1:Ws)(w:UInt32)(k:Nat){r:PV}(h1:4294967296≤j)(h2:av bp 271 [.row 100000 (0+l*1) (u-l) 1,.pv (aa (up.take b.length)),.pv (vU i)] [(100000,(.pure ((p:Ws).map ag).flatten))] (.pv (vB s)) [(100000,(.pure ((z:Ws).map ag).flatten))])(h3:s=true)(h4:((i:Nat)-(1:Nat):Int)%18446744073709551616=(d:Int))(h5:av bp 272 [.row 100000 (0+l*1) (u-l) 1,.pv (aa (up.take b.length))] [(100000,(.pure ((z:Ws).map ag).flatten))] (.pv (.aE [])) [(100000,(.pure ((z1:Ws).map ag).flatten))])(h6:d%4294967296=w.toNat)(h7:g=(k:Int))(h8:k<m)(h9:k<q.length)(ec:ax (g-1))(hL:ah c up b n m v1 v2 (g-1) z1 (q.set k w) r):bA c up b n m v1 v2 g l u i j p q r :=
 lG 243 [1,1,1,1,1,1,1,1,1,1,2,2,1] [.a,.aV [.o,.o,.o,.skip,.skip,.skip,.skip,.skip,.skip,.skip,.skip,.skip,.skip,.skip,.skip,.skip,.skip,.skip,.skip,.skip,.skip,(.dec false)],.a,.h 3 (.bG [(55,100000)] none (.pv (vB s)) [(100000,(.pure ((z:Ws).map ag).flatten))]),.t,.h 1 (iU d),.h 2 (.bG [(55,100000)] none (.pv (.aE [])) [(100000,(.pure ((z1:Ws).map ag).flatten))]),.aV [.o,.o,.o,iW w,(.nat k),(.cells (.pure (((q.set k w):Ws).map ag).flatten))],.h 1 (iI (g-1)),.aH [8,9,10,11,12,13,14]] (Ht (ar h1) (ar h1) (ar h1) (ar h1) (ar h1) h2 h3 (c9 h4) h5 (cv h6) (cj h7 h8) (gm aY (q:Ws) w h9) (aW ec)) hL
theorem Wl(c:Int)(up b:Ws)(n m:Nat)(v1 v2:UInt32)(d:Int)(l u g i:Nat)(j p z:Ws)(q:Bool)(w:UInt32)(k:Nat){r:PV}(h1:4294967296≤i)(h2:av bp 271 [.row 100000 (0+l*1) (u-l) 1,.pv (aa (up.take b.length)),.pv (vU g)] [(100000,(.pure ((j:Ws).map ag).flatten))] (.pv (vB q)) [(100000,(.pure ((z:Ws).map ag).flatten))])(h3:q=false)(h4:g%4294967296=w.toNat)(h5:d=(k:Int))(h6:k<m)(h7:k<p.length)(h8:ax (d-1))(hL:ah c up b n m v1 v2 (d-1) z (p.set k w) r):bA c up b n m v1 v2 d l u g i j p r :=
 lG 237 [1,1,1,1,1,1,1,1,2,2,1] [.a,.aV [.o,.o,.o,.skip,.skip,.skip,.skip,.skip,.skip,.skip,.skip,.skip,.skip,.skip,.skip,.skip,.skip,.skip,.skip,.skip,.skip,(.dec false)],.a,.h 3 (.bG [(55,100000)] none (.pv (vB q)) [(100000,(.pure ((z:Ws).map ag).flatten))]),.f,.aV [.o,.o,.o,iW w,(.nat k),(.cells (.pure (((p.set k w):Ws).map ag).flatten))],.h 1 (iI (d-1)),.aH [8,9,10,11,12,13,14]] (BL (ar h1) (ar h1) (ar h1) (ar h1) (ar h1) h2 h3 (cv h4) (cj h5 h6) (gm aY (p:Ws) w h7) (aW h8)) hL
end bq
namespace o9
theorem e0(a:au)(h1:a.ct.length=0):Cp 220 [a.pv] (vB (!a.neg)) :=
 eD Tryz.func220 84 [1,1] [.q,.h 2 (iI (a.ct.length:Int)),.t,.q] (y2 (an ag a.ct) (aM h1))
theorem e1(a:au)(k:Nat)(v:UInt32)(h1:a.ct.length≠0)(h2:ax ((a.ct.length:Int)-1))(h3:((a.ct.length:Int)-1)=(k:Int))(h4:a.ct[k]? = some v):Cp 220 [a.pv] (vB ((v.toNat:Int) != 0)) :=
 eD Tryz.func220 87 [1,1,1,1,3] [.q,.h 2 (iI (a.ct.length:Int)),.f,.aV [.o,.o,.o,.o,(iI (a.ct.length:Int)),(iI ((a.ct.length:Int)-1)),(.row k (ag v))]] (y5 (an ag a.ct) (aB h1) (an ag a.ct) (aW h2) (bO ag h3 h4))
end o9
namespace jn
@[reducible] noncomputable def fn:Func:=Tryz.f221
noncomputable def bf:List eg:=focus [0,2,0,2,0,0,0] [.code (ay fn)]
def inv1(m:List UInt32)(Po:Int):St:=⟨[(0,(.pv (aa m))),(3,(eI Po))],[]⟩
@[reducible] noncomputable def ah(m:List UInt32)(Po:Int)(r:PV):Prop:=L bp fn bf (inv1 m Po) r
theorem e0 (m : Ws) {r : PV}  (hL : ah m (m.length : Int) r) : Cp 221 [aa m] r :=
 eG Tryz.func221 81 [1] [.q,.h 1 (iI (m.length:Int)),.aH [0,3]] (y1 (an ag m)) hL
theorem l10(m:Ws)(b:Int)(k:Nat)(v:UInt32){r:PV}(h1:0<b)(h2:ax (b-1))(h3:(b-1)=(k:Int))(h4:m[k]? = some v)(h5:v.toNat=0)(hL:ah m (b-1) r):ah m b r :=
 lG 108 [1,1,1,1,1,3,1,1,1,1,1] [.a,.aV [.o,.o,.o,.o,.o,(iI (b-1)),(.row k (ag v)),.o,.o,(.dec true)],.t,.h 1 (iI (b-1)),.aH [0,3]] (BL (bY h1) (bY h1) (bY h1) (aW h2) (bY h1) (bO ag h3 h4) (bY h1) (bY h1) (bY h1) (aM h5) (aW h2)) hL
theorem kI(m:Ws)(b:Int)(k:Nat)(v:UInt32)(u:Nat)(h1:0<b)(h2:ax (b-1))(h3:(b-1)=(k:Int))(h4:m[k]? = some v)(h5:v.toNat≠0)(h6:b≠0)(h7:b=(u:Int))(h8:u≤m.length)(h9:(([]:Ws)++(m.take u):Ws).length*4≤140737488355328):ah m b (aa (m.take u)) :=
 lD 129 [1,1,1,1,1,3,1,1,1,1,1,6,6,3] [.a,.aV [.o,.o,.o,.o,.o,(iI (b-1)),(.row k (ag v)),.o,.o,(.dec true)],.f,.q,.f,.aV [.o,.o,.o,(.iL 0 u (((m.take u):Ws).map ag)),(.app ((m.take u):Ws).length (((m.take u):Ws).map ag).flatten)],.fo 2 (((m.take u):Ws).map ag)] (Km (bY h1) (bY h1) (bY h1) (aW h2) (bY h1) (bO ag h3 h4) (bY h1) (bY h1) (bY h1) (aB h5) (bW h6) (u6 aY (m:Ws) h7 h8) (qj aY ([]:Ws) ((m.take u):Ws) 4 (Eq.refl ([]:Ws).length) h9 rfl) (cU aY ((m.take u):Ws) (Eq.refl ((m.take u):Ws).length)))
theorem ta(m:Ws)(b:Int)(h1:b≤0)(h2:b=0):ah m b (aa []) :=
 lD 126 [1,1,1,1,1,1,1,1] [.a,.aV [.o,.o,.o,.skip,.skip,.skip,.skip,.skip,.skip,(.dec false)],.a,.q,.t,.q] (y8 (bD h1) (bD h1) (bD h1) (bD h1) (bD h1) (bD h1) (bD h1) (aP h2))
end jn
namespace qt
theorem e0(m:Ws)(i:Int)(k:Nat)(v:UInt32)(h1:i<(m.length:Int))(h2:i=(k:Int))(h3:m[k]? = some v):Cp 222 [aa m,vI i] (vU v.toNat) :=
 eD Tryz.func222 84 [1,1,3,1] [.q,.h 2 (iI (m.length:Int)),.t,.aV [.o,.o,(.row k (ag v)),.o,iU v.toNat]] (y4 (an ag m) (bY h1) (bO ag h2 h3) (mg v))
theorem e1(m:Ws)(i:Int)(h1:(m.length:Int)≤i):Cp 222 [aa m,vI i] (vU 0) :=
 eD Tryz.func222 87 [1,1] [.q,.h 2 (iI (m.length:Int)),.f,.q] (y2 (an ag m) (bD h1))
end qt
namespace jS
theorem e0(x:UInt32)(a:Int)(h1:Cp 292 [vW x] (vI a))(h2:ax (32-a)):Cp 269 [vW x] (vI (32-a)) :=
 eD Tryz.func269 72 [1,1] [.q,.aV [.o,(.pv (vI a)),(iI (32-a))]] (y2 h1 (aW h2))
end jS
namespace nE
@[reducible] noncomputable def fn:Func:=Tryz.f270
noncomputable def bf:List eg:=focus [0,2,0,2,0,0,2,0,0] [.code (ay fn)]
def inv1(n:Int)(a:List UInt32)(uf:Nat)(qu:List UInt32):St:=⟨[(1,(eI n)),(5,(.row 12 0 (a.length+1) 1)),(13,(.pv (aa a))),(14,(eI (a.length:Int))),(15,(eI (uf:Int)))],[(12,(.pure ((qu:List UInt32).map ag).flatten))]⟩
@[reducible] noncomputable def ah(n:Int)(a:List UInt32)(uf:Nat)(qu:List UInt32)(r:PV):Prop:=L bp fn bf (inv1 n a uf qu) r
theorem e0(a:Ws)(n:Int){r:PV}(h1:(a.length+1)<9223372036854775808)(h2:4*(a.length+1)≤140737488355328)(hL:ah n a 0 (List.replicate (a.length+1) (0:UInt32)) r):Cp 270 [aa a,vI n] r :=
 eG Tryz.func270 87 [1,1,5,1] [.q,.aV [.o,(iI (a.length:Int)),(iI (((a.length+1):Nat):Int)),(.app (a.length+1) ((List.replicate (a.length+1) (0:UInt32):Ws).map ag).flatten)],.h 1 (iI (a.length:Int)),.aH [1,5,13,14,15]] (y4 (an ag a) (aL h1) (q9 ag 0 4 (a.length+1) (Eq.refl ((((a.length+1):Nat):Int):Int)) h2 rfl) (an ag a)) hL
theorem l10(n:Int)(a:Ws)(b:Nat)(c:Ws)(v:UInt32)(k z:Nat)(v1 w z1:UInt32)(z2:Nat)(w1:UInt32){r:PV}(h1:b<a.length)(h2:a[b]? = some v)(h3:n=(k:Int))(h4:(v.toNat*2^(min k 64))%18446744073709551616=z)(h5:b<(a.length+1))(h6:c[b]? = some v1)(h7:z%4294967296=w.toNat)(h8:(v1.toNat%4294967296) ||| (w.toNat%4294967296)=z1.toNat)(h9:b<c.length)(ec:(b+1)<9223372036854775808)(il:z/2^(min 32 64)=z2)(mF:z2%4294967296=w1.toNat)(u9:(b+1)<(a.length+1))(EC:(b+1)<(c.set b z1).length)(hL:ah n a (b+1) ((c.set b z1).set (b+1) w1) r):ah n a b c r :=
 lG 138 [1,3,1,1,2,1,1,1,2,2,1,1,1,2,2,1] [.a,.q,.t,.h 1 (.row b (ag v)),.aV [.o,iU v.toNat,.o,iU z],.aV [.o,.o,(.nat b),(.ev (.pv (vW v1))),.o,iW w,iW z1,(.nat b),(.cells (.pure (((c.set b z1):Ws).map ag).flatten))],.aV [.o,.o,(iI (((b+1):Nat):Int)),.o,iU z2,iW w1,(.nat (b+1)),(.cells (.pure ((((c.set b z1).set (b+1) w1):Ws).map ag).flatten))],.h 0 (iI (((b+1):Nat):Int)),.aH [1,5,13,14,15]] (FB (ai h1) (bO ag (Eq.refl (((b:Nat):Int):Int)) h2) (mg v) (MT h3 (gP (k := .i64) h4)) (cj (Eq.refl (((b:Nat):Int):Int)) h5) (fj (enc:=ag) (f:=fun a=>(vW a)) (fun _=>rfl) h6) (cv h7) (sx h8) (cj (Eq.refl (((b:Nat):Int):Int)) h5) (gm aY (c:Ws) z1 h9) (aL ec) (cF (k := .u64) il) (cv mF) (cj (Eq.refl ((((b+1):Nat):Int):Int)) u9) (gm aY ((c.set b z1):Ws) w1 EC) (aL ec)) hL
theorem cV(n:Int)(a:Ws)(b:Nat)(c:Ws)(h1:a.length≤b)(h2:(a.length+1)=c.length):ah n a b c (aa c) :=
 lD 120 [1,3] [.a,.q,.f,.q,.fo 4 ((c:Ws).map ag)] (y2 (ar h1) (cU aY (c:Ws) h2))
end nE
namespace mo
@[reducible] noncomputable def fn:Func:=Tryz.f270
noncomputable def bf:List eg:=focus [0,2,0,2,0,0,2,0,0] [.code (ay fn)]
def inv1(n:Int)(a:List UInt32)(uf:Nat)(qu:List UInt32):St:=⟨[(1,(eI n)),(5,(.row 12 0 (a.length+1) 1)),(13,(.pv (aa a))),(14,(eI (a.length:Int))),(15,(eI (uf:Int)))],[(12,(.pure ((qu:List UInt32).map ag).flatten))]⟩
@[reducible] noncomputable def ah(n:Int)(a:List UInt32)(uf:Nat)(qu:List UInt32)(sin:aS)(r:EV)(sout:aS):Prop:=LX bp fn bf (inv1 n a uf qu) sin r sout
theorem e0(a:Ws)(n:Int){r:EV}{sout:aS}(h1:(a.length+1)<9223372036854775808)(h2:4*(a.length+1)≤140737488355328)(hL:ah n a 0 (List.replicate (a.length+1) (0:UInt32)) [] r sout):av bp 270 [(.pv (aa a)),eI n] [] r sout :=
 Kl Tryz.func270 87 [1,1,5,1] [.q,.aV [.o,(iI (a.length:Int)),(iI (((a.length+1):Nat):Int)),(.app (a.length+1) ((List.replicate (a.length+1) (0:UInt32):Ws).map ag).flatten)],.h 1 (iI (a.length:Int)),.aH [1,5,13,14,15]] (y4 (an ag a) (aL h1) (q9 ag 0 4 (a.length+1) (Eq.refl ((((a.length+1):Nat):Int):Int)) h2 rfl) (an ag a)) hL
theorem l10(n:Int)(a:Ws)(b:Nat)(c:Ws)(v:UInt32)(k z:Nat)(v1 w z1:UInt32)(z2:Nat)(w1:UInt32){r:EV}{sout:aS}{sin:aS}(hs:sin.all (fun p=>Nat.ble fn.ntmps p.1)=true)(h1:b<a.length)(h2:a[b]? = some v)(h3:n=(k:Int))(h4:(v.toNat*2^(min k 64))%18446744073709551616=z)(h5:b<(a.length+1))(h6:c[b]? = some v1)(h7:z%4294967296=w.toNat)(h8:(v1.toNat%4294967296) ||| (w.toNat%4294967296)=z1.toNat)(h9:b<c.length)(ec:(b+1)<9223372036854775808)(il:z/2^(min 32 64)=z2)(mF:z2%4294967296=w1.toNat)(u9:(b+1)<(a.length+1))(EC:(b+1)<(c.set b z1).length)(hL:ah n a (b+1) ((c.set b z1).set (b+1) w1) sin r sout):ah n a b c sin r sout :=
 IK 138 [1,3,1,1,2,1,1,1,2,2,1,1,1,2,2,1] [.a,.q,.t,.h 1 (.row b (ag v)),.aV [.o,iU v.toNat,.o,iU z],.aV [.o,.o,(.nat b),(.ev (.pv (vW v1))),.o,iW w,iW z1,(.nat b),(.cells (.pure (((c.set b z1):Ws).map ag).flatten))],.aV [.o,.o,(iI (((b+1):Nat):Int)),.o,iU z2,iW w1,(.nat (b+1)),(.cells (.pure ((((c.set b z1).set (b+1) w1):Ws).map ag).flatten))],.h 0 (iI (((b+1):Nat):Int)),.aH [1,5,13,14,15]] hs (FB (ai h1) (bO ag (Eq.refl (((b:Nat):Int):Int)) h2) (mg v) (MT h3 (gP (k := .i64) h4)) (cj (Eq.refl (((b:Nat):Int):Int)) h5) (fj (enc:=ag) (f:=fun a=>(vW a)) (fun _=>rfl) h6) (cv h7) (sx h8) (cj (Eq.refl (((b:Nat):Int):Int)) h5) (gm aY (c:Ws) z1 h9) (aL ec) (cF (k := .u64) il) (cv mF) (cj (Eq.refl ((((b+1):Nat):Int):Int)) u9) (gm aY ((c.set b z1):Ws) w1 EC) (aL ec)) hL
theorem cV(n:Int)(a:Ws)(b:Nat)(c:Ws){sin:aS}(hs:sin.all (fun p=>Nat.ble fn.ntmps p.1)=true)(hi:sin.all (fun p=>uC p.1||(aS.get [(0,(.pure (((c.take (a.length+1)):Ws).map ag).flatten))] p.1).isSome)=true)(h1:a.length≤b):ah n a b c sin (.row 0 0 (a.length+1) 1) [(0,(.pure (((c.take (a.length+1)):Ws).map ag).flatten))] :=
 DP 120 [1,1] [.a,.q,.f,.q,.ra 12 0,.cut 0 ((a.length+1)*1) (((c.take (a.length+1)):Ws).map ag).flatten,.ord [0]] hs hi (y2 (ar h1) (tq aY (c:Ws) (a.length+1)))
end mo
namespace iR
@[reducible] noncomputable def fn:Func:=Tryz.f271
noncomputable def bf:List eg:=focus [0,2,0,2,0,0,2,0,0] [.code (ay fn)]
def inv1(off len:Nat)(v:List UInt32)(n qv zV Gv:Nat)(bw:List UInt32):St:=⟨[(0,(.row 100000 off len 1)),(1,(.pv (aa v))),(2,(eU n)),(7,(eU qv)),(8,(eU zV)),(12,(eI (len:Int))),(13,(eI (Gv:Int)))],[(100000,(.pure ((bw:List UInt32).map ag).flatten))]⟩
@[reducible] noncomputable def ah(off len:Nat)(v:List UInt32)(n qv zV Gv:Nat)(bw:List UInt32)(sin:aS)(r:EV)(sout:aS):Prop:=LX bp fn bf (inv1 off len v n qv zV Gv bw) sin r sout
theorem e0 (u : Ws) (a b : Nat) (v : Ws) (n : Nat) {r : EV} {sout : aS}  (hL : ah a b v n 0 0 0 u [(100000, (.pure ((u : Ws).map ag).flatten))] r sout) : av bp 271 [(.row 100000 a b 1), (.pv (aa v)), eU n] [(100000, (.pure ((u : Ws).map ag).flatten))] r sout :=
 Kl Tryz.func271 87 [] [.q,.q,.q,.aH [0,1,2,7,8,12,13]] True.intro hL
theorem l10(b c:Nat)(v:Ws)(n g i j:Nat)(l:Ws)(m p s:Nat)(v1 w:UInt32)(d d1:Nat)(w1:UInt32)(z z1:Nat){r:EV}{sout:aS}{sin:aS}(hs:sin.all (fun p=>Nat.ble fn.ntmps p.1)=true)(h1:j<c)(h2:Cp 222 [aa v,(vI (j:Int))] (vU m))(h3:(n*m)%18446744073709551616=p)(h4:(g+p)%18446744073709551616=s)(h5:l[b+j]? = some v1)(h6:s%4294967296=w.toNat)(h7:((v1.toNat:Nat)-(w.toNat:Nat):Int)%18446744073709551616=(d:Int))(h8:((d:Nat)-(i:Nat):Int)%18446744073709551616=(d1:Int))(h9:d1%4294967296=w1.toNat)(ec:(b+j)<l.length)(il:d1/2^(min 63 64)=z)(mF:s/2^(min 32 64)=z1)(u9:(j+1)<9223372036854775808)(hL:ah b c v n z1 z (j+1) (l.set (b+j) w1) sin r sout):ah b c v n g i j l sin r sout :=
 IK 150 [1,1,1,1,2,1,1,1,1,1,1,1,2,2,1,1,1] [.a,.q,.t,.q,.aV [.o,.o,.o,.o,(.pv (vU m)),iU p,iU s],.aV [.o,.o,(.nat j),(.ev (.pv (vW v1))),iU v1.toNat,.o,iW w,iU w.toNat,iU d,.o,iU d1],.aV [.o,.o,.o,iW w1,(.nat j),(.cells (.pure (((l.set (b+j) w1):Ws).map ag).flatten))],.h 1 (iU z),.h 1 (iU z1),.h 0 (iI (((j+1):Nat):Int)),.aH [0,1,2,7,8,12,13]] hs (Pf (ai h1) h2 (lQ h3) (dj h4) (cj (Eq.refl (((j:Nat):Int):Int)) h1) (tX (enc:=ag) (f:=fun a=>(vW a)) (fun _=>rfl) h5) (mg v1) (cv h6) (mg w) (c9 h7) (c9 h8) (cv h9) (cj (Eq.refl (((j:Nat):Int):Int)) h1) (Kh aY (l:Ws) w1 b j ec) (cF (k := .u64) il) (cF (k := .u64) mF) (aL u9)) hL
theorem cV(b c:Nat)(v:Ws)(n d g i:Nat)(j:Ws){sin:aS}(hs:sin.all (fun p=>Nat.ble fn.ntmps p.1)=true)(hi:sin.all (fun p=>uC p.1||(aS.get [(100000,(.pure ((j:Ws).map ag).flatten))] p.1).isSome)=true)(h1:c≤i):ah b c v n d g i j sin (.pv (vB ((g:Int)==1))) [(100000,(.pure ((j:Ws).map ag).flatten))] :=
 DP 120 [1] [.a,.q,.f,.q,.ord [100000]] hs hi (y1 (ar h1))
end iR
namespace kZ
@[reducible] noncomputable def fn:Func:=Tryz.f272
noncomputable def bf:List eg:=focus [0,2,0,2,0,0] [.code (ay fn)]
def inv1(off len:Nat)(v:List UInt32)(CZ sD:Nat)(bw:List UInt32):St:=⟨[(0,(.row 100000 off len 1)),(1,(.pv (aa v))),(4,(eU CZ)),(7,(eI (len:Int))),(8,(eI (sD:Int)))],[(100000,(.pure ((bw:List UInt32).map ag).flatten))]⟩
@[reducible] noncomputable def ah(off len:Nat)(v:List UInt32)(CZ sD:Nat)(bw:List UInt32)(sin:aS)(r:EV)(sout:aS):Prop:=LX bp fn bf (inv1 off len v CZ sD bw) sin r sout
theorem e0 (u : Ws) (a b : Nat) (v : Ws) {r : EV} {sout : aS}  (hL : ah a b v 0 0 u [(100000, (.pure ((u : Ws).map ag).flatten))] r sout) : av bp 272 [(.row 100000 a b 1), (.pv (aa v))] [(100000, (.pure ((u : Ws).map ag).flatten))] r sout :=
 Kl Tryz.func272 78 [] [.q,.q,.aH [0,1,4,7,8]] True.intro hL
theorem l10(b c:Nat)(v:Ws)(d g:Nat)(i:Ws)(v1:UInt32)(j s s1:Nat)(w:UInt32)(z:Nat){r:EV}{sout:aS}{sin:aS}(hs:sin.all (fun p=>Nat.ble fn.ntmps p.1)=true)(h1:g<c)(h2:i[b+g]? = some v1)(h3:Cp 222 [aa v,(vI (g:Int))] (vU j))(h4:(v1.toNat+j)%18446744073709551616=s)(h5:(d+s)%18446744073709551616=s1)(h6:s1%4294967296=w.toNat)(h7:(b+g)<i.length)(h8:s1/2^(min 32 64)=z)(h9:(g+1)<9223372036854775808)(hL:ah b c v z (g+1) (i.set (b+g) w) sin r sout):ah b c v d g i sin r sout :=
 IK 129 [1,2,1,1,1,1,1,1,2,2,1,1] [.a,.q,.t,.q,dr 11 1 [.none,.none,.none,(.nat g),(.ev (.pv (vW v1))),iU v1.toNat,.none,.none,(.pv (vU j)),iU s,iU s1],.aV [.o,.o,.o,iW w,(.nat g),(.cells (.pure (((i.set (b+g) w):Ws).map ag).flatten))],.h 1 (iU z),.h 0 (iI (((g+1):Nat):Int)),.aH [0,1,4,7,8]] hs (Jj (ai h1) (cj (Eq.refl (((g:Nat):Int):Int)) h1) (tX (enc:=ag) (f:=fun a=>(vW a)) (fun _=>rfl) h2) (mg v1) h3 (dj h4) (dj h5) (cv h6) (cj (Eq.refl (((g:Nat):Int):Int)) h1) (Kh aY (i:Ws) w b g h7) (cF (k := .u64) h8) (aL h9)) hL
theorem cV(b c:Nat)(v:Ws)(d g:Nat)(i:Ws){sin:aS}(hs:sin.all (fun p=>Nat.ble fn.ntmps p.1)=true)(hi:sin.all (fun p=>uC p.1||(aS.get [(100000,(.pure ((i:Ws).map ag).flatten))] p.1).isSome)=true)(h1:c≤g):ah b c v d g i sin (.pv (.aE [])) [(100000,(.pure ((i:Ws).map ag).flatten))] :=
 DP 105 [1] [.a,.q,.f,.ord [100000]] hs hi (y1 (ar h1))
end kZ
namespace ld
@[reducible] noncomputable def fn:Func:=Tryz.f273
noncomputable def bf:List eg:=focus [0,2,0,2,0,0,2,0,0] [.code (ay fn)]
def inv1(a:List UInt32)(n:Int)(zW:Nat)(gU:List UInt32):St:=⟨[(0,(.pv (aa a))),(1,(eI n)),(5,(.row 9 0 a.length 1)),(11,(eI (a.length:Int))),(12,(eI (zW:Int)))],[(9,(.pure ((gU:List UInt32).map ag).flatten))]⟩
@[reducible] noncomputable def ah(a:List UInt32)(n:Int)(zW:Nat)(gU:List UInt32)(r:PV):Prop:=L bp fn bf (inv1 a n zW gU) r
theorem e0(a:Ws)(n:Int){r:PV}(h1:4*a.length≤140737488355328)(hL:ah a n 0 (List.replicate a.length (0:UInt32)) r):Cp 273 [aa a,vI n] r :=
 eG Tryz.func273 87 [1,5,1] [.q,.aV [.o,(iI (a.length:Int)),(.app a.length ((List.replicate a.length (0:UInt32):Ws).map ag).flatten)],.h 1 (iI (a.length:Int)),.aH [0,1,5,11,12]] (y3 (an ag a) (q9 ag 0 4 a.length (Eq.refl (((a.length:Nat):Int):Int)) h1 rfl) (an ag a)) hL
theorem l10(a:Ws)(n:Int)(b:Nat)(c:Ws)(v:UInt32)(d z z1 k z2:Nat)(w:UInt32){r:PV}(h1:b<a.length)(h2:a[b]? = some v)(h3:(b+1)<9223372036854775808)(h4:Cp 222 [aa a,(vI (((b+1):Nat):Int))] (vU d))(h5:(d*2^(min 32 64))%18446744073709551616=z)(h6:(v.toNat%18446744073709551616) ||| (z%18446744073709551616)=z1)(h7:n=(k:Int))(h8:z1/2^(min k 64)=z2)(h9:z2%4294967296=w.toNat)(ec:b<c.length)(hL:ah a n (b+1) (c.set b w) r):ah a n b c r :=
 lG 126 [1,3,1,1,1,1,1,1,1,2,2,1] [.a,.q,.t,.q,dr 17 1 [.none,.none,.none,.none,(.row b (ag v)),.none,iU v.toNat,.none,.none,(iI (((b+1):Nat):Int)),(.pv (vU d)),iU z,iU z1,.none,iU z2,iW w,(.nat b),(.cells (.pure (((c.set b w):Ws).map ag).flatten))],.h 0 (iI (((b+1):Nat):Int)),.aH [0,1,5,11,12]] (Jj (ai h1) (bO ag (Eq.refl (((b:Nat):Int):Int)) h2) (mg v) (aL h3) h4 (gP (k := .u64) h5) (lR h6) (MT h7 (cF (k := .i64) h8)) (cv h9) (cj (Eq.refl (((b:Nat):Int):Int)) h1) (gm aY (c:Ws) w ec) (aL h3)) hL
theorem cV(a:Ws)(n:Int)(b:Nat)(c d:Ws)(h1:a.length≤b)(h2:a.length=c.length)(h3:Cp 221 [aa c] (aa d)):ah a n b c (aa d) :=
 lD 120 [1,3,1] [.a,.q,.f,.fo 5 ((c:Ws).map ag),.h 1 (.pv (aa d))] (y3 (ar h1) (cU aY (c:Ws) h2) h3)
end ld
namespace im
theorem e0(x z z1:UInt32)(m b:Nat)(h1:65536≤x.toNat)(h2:x.toNat/2^(min 16 32)=z.toNat)(h3:256≤z.toNat)(h4:z.toNat/2^(min 8 32)=z1.toNat)(h5:z1.toNat%256=m)(h6:((ByteArray.mk #[0,1,2,2,3,3,3,3,4,4,4,4,4,4,4,4,5,5,5,5,5,5,5,5,5,5,5,5,5,5,5,5,6,6,6,6,6,6,6,6,6,6,6,6,6,6,6,6,6,6,6,6,6,6,6,6,6,6,6,6,6,6,6,6,7,7,7,7,7,7,7,7,7,7,7,7,7,7,7,7,7,7,7,7,7,7,7,7,7,7,7,7,7,7,7,7,7,7,7,7,7,7,7,7,7,7,7,7,7,7,7,7,7,7,7,7,7,7,7,7,7,7,7,7,7,7,7,7,8,8,8,8,8,8,8,8,8,8,8,8,8,8,8,8,8,8,8,8,8,8,8,8,8,8,8,8,8,8,8,8,8,8,8,8,8,8,8,8,8,8,8,8,8,8,8,8,8,8,8,8,8,8,8,8,8,8,8,8,8,8,8,8,8,8,8,8,8,8,8,8,8,8,8,8,8,8,8,8,8,8,8,8,8,8,8,8,8,8,8,8,8,8,8,8,8,8,8,8,8,8,8,8,8,8,8,8,8,8,8,8,8,8,8,8,8,8,8,8,8,8,8,8,8,8,8,8]).data.toList[m]?).map (fun b=>(b.toNat:Int))=some (b:Int))(h7:b<9223372036854775808)(h8:(24+b)<9223372036854775808):Cp 292 [vW x] (vI (((24+b):Nat):Int)) :=
 eD Tryz.func292 114 [1,1,1,1,1,2,1,1] [.q,.q,.t,.h 1 (iW z),.q,.q,.t,.h 1 (iW z1),.q,.aV [.o,.o,(.pv (.int .u8 (m:Int))),(.row m [.int .u8 (b:Int)]),(iI (b:Int)),(iI (((24+b):Nat):Int))]] (y8 (da h1) (kh (k := .u64) h2) (da h3) (kh (k := .u64) h4) (CR h5) (cj (Eq.refl (((m:Nat):Int):Int)) h6) (yi h7) (aL h8))
theorem e1(x z:UInt32)(m b:Nat)(h1:65536≤x.toNat)(h2:x.toNat/2^(min 16 32)=z.toNat)(h3:z.toNat<256)(h4:z.toNat%256=m)(h5:((ByteArray.mk #[0,1,2,2,3,3,3,3,4,4,4,4,4,4,4,4,5,5,5,5,5,5,5,5,5,5,5,5,5,5,5,5,6,6,6,6,6,6,6,6,6,6,6,6,6,6,6,6,6,6,6,6,6,6,6,6,6,6,6,6,6,6,6,6,7,7,7,7,7,7,7,7,7,7,7,7,7,7,7,7,7,7,7,7,7,7,7,7,7,7,7,7,7,7,7,7,7,7,7,7,7,7,7,7,7,7,7,7,7,7,7,7,7,7,7,7,7,7,7,7,7,7,7,7,7,7,7,7,8,8,8,8,8,8,8,8,8,8,8,8,8,8,8,8,8,8,8,8,8,8,8,8,8,8,8,8,8,8,8,8,8,8,8,8,8,8,8,8,8,8,8,8,8,8,8,8,8,8,8,8,8,8,8,8,8,8,8,8,8,8,8,8,8,8,8,8,8,8,8,8,8,8,8,8,8,8,8,8,8,8,8,8,8,8,8,8,8,8,8,8,8,8,8,8,8,8,8,8,8,8,8,8,8,8,8,8,8,8,8,8,8,8,8,8,8,8,8,8,8,8,8,8,8,8,8,8]).data.toList[m]?).map (fun b=>(b.toNat:Int))=some (b:Int))(h6:b<9223372036854775808)(h7:(16+b)<9223372036854775808):Cp 292 [vW x] (vI (((16+b):Nat):Int)) :=
 eD Tryz.func292 108 [1,1,1,1,2,1,1] [.q,.q,.t,.h 1 (iW z),.q,.q,.f,.aV [.o,.o,(.pv (.int .u8 (m:Int))),(.row m [.int .u8 (b:Int)]),(iI (b:Int)),(iI (((16+b):Nat):Int))]] (y7 (da h1) (kh (k := .u64) h2) (bH h3) (CR h4) (cj (Eq.refl (((m:Nat):Int):Int)) h5) (yi h6) (aL h7))
theorem e2(x z:UInt32)(m b:Nat)(h1:x.toNat<65536)(h2:256≤x.toNat)(h3:x.toNat/2^(min 8 32)=z.toNat)(h4:z.toNat%256=m)(h5:((ByteArray.mk #[0,1,2,2,3,3,3,3,4,4,4,4,4,4,4,4,5,5,5,5,5,5,5,5,5,5,5,5,5,5,5,5,6,6,6,6,6,6,6,6,6,6,6,6,6,6,6,6,6,6,6,6,6,6,6,6,6,6,6,6,6,6,6,6,7,7,7,7,7,7,7,7,7,7,7,7,7,7,7,7,7,7,7,7,7,7,7,7,7,7,7,7,7,7,7,7,7,7,7,7,7,7,7,7,7,7,7,7,7,7,7,7,7,7,7,7,7,7,7,7,7,7,7,7,7,7,7,7,8,8,8,8,8,8,8,8,8,8,8,8,8,8,8,8,8,8,8,8,8,8,8,8,8,8,8,8,8,8,8,8,8,8,8,8,8,8,8,8,8,8,8,8,8,8,8,8,8,8,8,8,8,8,8,8,8,8,8,8,8,8,8,8,8,8,8,8,8,8,8,8,8,8,8,8,8,8,8,8,8,8,8,8,8,8,8,8,8,8,8,8,8,8,8,8,8,8,8,8,8,8,8,8,8,8,8,8,8,8,8,8,8,8,8,8,8,8,8,8,8,8,8,8,8,8,8,8]).data.toList[m]?).map (fun b=>(b.toNat:Int))=some (b:Int))(h6:b<9223372036854775808)(h7:(8+b)<9223372036854775808):Cp 292 [vW x] (vI (((8+b):Nat):Int)) :=
 eD Tryz.func292 108 [1,1,1,1,2,1,1] [.q,.q,.f,.q,.t,.h 1 (iW z),.q,.aV [.o,.o,(.pv (.int .u8 (m:Int))),(.row m [.int .u8 (b:Int)]),(iI (b:Int)),(iI (((8+b):Nat):Int))]] (y7 (bH h1) (da h2) (kh (k := .u64) h3) (CR h4) (cj (Eq.refl (((m:Nat):Int):Int)) h5) (yi h6) (aL h7))
theorem e3(x:UInt32)(m b:Nat)(h1:x.toNat<65536)(h2:x.toNat<256)(h3:x.toNat%256=m)(h4:((ByteArray.mk #[0,1,2,2,3,3,3,3,4,4,4,4,4,4,4,4,5,5,5,5,5,5,5,5,5,5,5,5,5,5,5,5,6,6,6,6,6,6,6,6,6,6,6,6,6,6,6,6,6,6,6,6,6,6,6,6,6,6,6,6,6,6,6,6,7,7,7,7,7,7,7,7,7,7,7,7,7,7,7,7,7,7,7,7,7,7,7,7,7,7,7,7,7,7,7,7,7,7,7,7,7,7,7,7,7,7,7,7,7,7,7,7,7,7,7,7,7,7,7,7,7,7,7,7,7,7,7,7,8,8,8,8,8,8,8,8,8,8,8,8,8,8,8,8,8,8,8,8,8,8,8,8,8,8,8,8,8,8,8,8,8,8,8,8,8,8,8,8,8,8,8,8,8,8,8,8,8,8,8,8,8,8,8,8,8,8,8,8,8,8,8,8,8,8,8,8,8,8,8,8,8,8,8,8,8,8,8,8,8,8,8,8,8,8,8,8,8,8,8,8,8,8,8,8,8,8,8,8,8,8,8,8,8,8,8,8,8,8,8,8,8,8,8,8,8,8,8,8,8,8,8,8,8,8,8,8]).data.toList[m]?).map (fun b=>(b.toNat:Int))=some (b:Int))(h5:b<9223372036854775808)(h6:(0+b)<9223372036854775808):Cp 292 [vW x] (vI (((0+b):Nat):Int)) :=
 eD Tryz.func292 102 [1,1,1,2,1,1] [.q,.q,.f,.q,.f,.aV [.o,.o,(.pv (.int .u8 (m:Int))),(.row m [.int .u8 (b:Int)]),(iI (b:Int)),(iI (((0+b):Nat):Int))]] (y6 (bH h1) (bH h2) (CR h3) (cj (Eq.refl (((m:Nat):Int):Int)) h4) (yi h5) (aL h6))
end im
end Go.Proofs.YtllmkadmohkbfaaGreatDoor.Sym.Path
namespace Go.Proofs.YtllmkadmohkbfaaGreatDoor.Sym
open Go Path
abbrev Fit(l:Words):Prop:=l.length≤1099511627776
def au.valid(a:au):Bool:=bif a.ct.isEmpty then !a.neg else cn a.ct
def au.val(a:au):Int:=bif a.valid then (bif a.neg then -(nat a.ct:Int) else (nat a.ct:Int)) else 0
def whole(i:Int):au:=⟨decide (i<0),words i.natAbs⟩
theorem aA(i:Int):(whole i).val=i:=by
 unfold au.val au.valid whole
 simp only[aD]
 by_cases h:i=0
 ·subst h;rfl
 ·have h1:(words i.natAbs).isEmpty=false:=by
   rw[List.isEmpty_eq_false_iff]
   intro e
   rw[sC] at e
   omega
  rw[h1]
  simp only[cond_false,gE,cond_true]
  by_cases h2:i<0
  ·simp[h2];omega
  ·simp[h2];omega
theorem db{l:Words} : l.isEmpty=decide (l.length=0):=by cases l<;>simp
namespace bN
theorem Valid(a:au)(h:Fit a.ct):Cp 220 [a.pv] (vB a.valid):=by
 unfold au.valid
 rw[db]
 by_cases h0:a.ct.length=0
 ·simp only[h0,decide_true,cond_true]
  exact o9.e0 a h0
 ·simp only[h0,decide_false,cond_false]
  obtain⟨v,hv⟩:∃v,a.ct[a.ct.length-1]? = some v:=⟨_,List.getElem?_eq_getElem (by omega)⟩
  have:=o9.e1 a (a.ct.length-1) v h0 (by unfold ax;omega) (by omega) hv
  have e:cn a.ct=((v.toNat:Int) != 0):=by
   have h1:=l6 hv
   by_cases h2:v.toNat=0
   ·have h3:((v.toNat:Int) != 0)=false:=by simp[h2]
    rw[h3]
    cases hc:cn a.ct with
    |true=>exact absurd h2 (h1.1 hc)
    |false=>rfl
   ·have h3:((v.toNat:Int) != 0)=true:=by simp;omega
    rw[h3];exact h1.2 h2
  rw[e];exact this
theorem yk(a:au):decide (a.val<0)=(a.valid&&a.neg):=by
 unfold au.val
 cases hv:a.valid with
 |false=>simp
 |true =>
  cases hn:a.neg with
  |false=>simp
  |true =>
   simp only[cond_true,Bool.and_true]
   unfold au.valid at hv
   have:0<nat a.ct:=by
    cases he:a.ct.isEmpty with
    |true=>rw[he,hn] at hv;cases hv
    |false =>
     rw[he] at hv
     exact o7 hv (by rw[←List.isEmpty_eq_false_iff];exact he)
   simp;omega
theorem C0(a:au):words a.val.natAbs=bif a.valid then a.ct else []:=by
 unfold au.val
 cases hv:a.valid with
 |false=>rfl
 |true =>
  have hc:cn a.ct=true:=by
   unfold au.valid at hv
   cases he:a.ct.isEmpty with
   |true=>rw[List.isEmpty_iff] at he;rw[he];rfl
   |false=>rw[he] at hv;exact hv
  cases hn:a.neg with
  |false=>simp only[cond_true,cond_false,Int.natAbs_natCast];exact et hc
  |true=>simp only[cond_true,Int.natAbs_neg,Int.natAbs_natCast];exact et hc
theorem ct(a:au)(h:Fit a.ct):Cp 134 [a.pv] (aa (words a.val.natAbs)):=by
 rw[C0]
 cases hv:a.valid with
 |false=>exact rI.e0 a a.valid (Valid a h) hv
 |true=>exact rI.e1 a a.valid (Valid a h) hv
theorem neg(a:au)(h:Fit a.ct):Cp 135 [a.pv] (vB (decide (a.val<0))):=by
 rw[yk]
 cases hv:a.valid with
 |false=>exact rJ.e1 a a.valid (Valid a h) hv
 |true=>rw[Bool.true_and];exact rJ.e0 a a.valid (Valid a h) hv
theorem trim(m:Words)(h:m.length≤35184372088832):Cp 221 [aa m] (aa (words (nat m))):=by
 have loop:∀n:Nat,n≤m.length→nat (m.take n)=nat m→jn.ah m (n:Int) (aa (words (nat m))):=by
  intro n
  induction n with
  |zero =>
   intro _ h2
   have:nat m=0:=by rw[←h2];rfl
   rw[this,eT]
   exact jn.ta m _ (by omega) rfl
  |succ n ih =>
   intro h1 h2
   obtain⟨v,hv⟩:∃v,m[n]? = some v:=⟨_,List.getElem?_eq_getElem (by omega)⟩
   by_cases h0:v.toNat=0
   ·refine jn.l10 m _ n v (by omega) (by unfold ax;omega) (by omega) hv h0 ?_
    rw[show ((n+1:Nat):Int)-1=(n:Int) from by omega]
    refine ih (by omega) ?_
    rw[bR hv,h0] at h2
    simpa using h2
   ·have:=jn.kI m ((n+1:Nat):Int) n v (n+1) (by omega) (by unfold ax;omega) (by omega) hv h0 (by omega) rfl h1 (by simp;omega)
    have e:words (nat m)=m.take (n+1):=by
     refine rH ?_ h2
     refine(l6 (v:=v) ?_).2 h0
     rw[List.length_take,Nat.min_eq_left h1,Nat.add_sub_cancel,List.getElem?_take,if_pos (by omega)]
     exact hv
    rw[e];exact this
 exact jn.e0 m (loop m.length (Nat.le_refl _) (aR (Nat.le_refl _)))
theorem whole(neg:Bool)(m:Words)(h:m.length≤35184372088832):Cp 136 [vB neg,aa m] (whole (bif neg then -(nat m:Int) else (nat m:Int))).pv:=by
 cases neg with
 |false =>
  have:=o8.e1 false m _ (trim m h) rfl
  have e:decide ((nat m:Int)<0)=false:=by simp
  simp only[Sym.whole,cond_false,e,Int.natAbs_natCast]
  exact this
 |true =>
  have:=o8.e0 true m _ (trim m h) rfl
  have e:decide (((words (nat m)).length:Int)>0)=decide (-(nat m:Int)<0):=by
   have:=dk (n:=nat m)
   by_cases h0:nat m=0
   ·have h1:=this.2 h0
    simp[h0,eT]
   ·have h1:¬(words (nat m)).length=0:=fun h=>h0 (this.1 h)
    rw[decide_eq_true (by omega),decide_eq_true (by omega)]
  rw[e] at this
  simpa[Sym.whole] using this
def wd(m:Words)(i:Nat):Nat:=match m[i]? with
 |some w=>w.toNat
 |none=>0
theorem mq(m:Words)(i:Nat):wd m i<4294967296:=by
 unfold wd
 cases m[i]? with
 |none=>simp
 |some w=>exact ij w
theorem iF{m:Words}{i:Nat}{v:UInt32}(h:m[i]? = some v):wd m i=v.toNat:=by unfold wd;rw[h]
theorem va{m:Words}{i:Nat}(h:m.length≤i):wd m i=0:=by unfold wd;rw[List.getElem?_eq_none h]
theorem dM(m:Words)(k:Nat):nat (m.take (k+1))=nat (m.take k)+4294967296^k*wd m k:=by
 by_cases h:k<m.length
 ·have hv:=List.getElem?_eq_getElem h
  rw[bR hv,iF hv]
 ·rw[aR (by omega),aR (by omega),va (by omega)]
  omega
theorem word(m:Words)(i:Nat):Cp 222 [aa m,vI (i:Int)] (vU (wd m i)):=by
 unfold wd
 cases h:m[i]? with
 |none =>
  have:=List.getElem?_eq_none_iff.1 h
  exact qt.e1 m i (by omega)
 |some v =>
  have:=(List.getElem?_eq_some_iff.1 h).1
  exact qt.e0 m i i v (by omega) rfl h
theorem plus(a b:Words)(ha:a.length≤2199023255552)(hb:b.length≤2199023255552):Cp 137 [aa a,aa b] (aa (words (nat a+nat b))):=by
 have hm:max a.length b.length≤2199023255552:=by omega
 have loop:∀(j t carry:Nat) (site:Words),max a.length b.length+1-t=j→t≤max a.length b.length+1→site.length=max a.length b.length+1→carry≤1 →
   nat (site.take t)+4294967296^t*carry=nat (a.take t)+nat (b.take t)→kW.ah a b carry t site (aa (words (nat a+nat b))):=by
  intro j
  induction j with
  |zero =>
   intro t carry site hj ht hs hc hinv
   have uY:t=max a.length b.length+1:=by omega
   have Gw:nat site=nat a+nat b:=by
    rw[aR (by omega),aR (by omega),aR (by omega)] at hinv
    have h1:=dU a
    have h2:=dU b
    have h3:=kV (show a.length≤t-1 by omega)
    have h4:=kV (show b.length≤t-1 by omega)
    have h5:(4294967296:Nat)^t=4294967296^(t-1)*4294967296:=by rw[←Nat.pow_succ];congr 1;omega
    have yl:carry=0:=by
     cases carry with
     |zero=>rfl
     |succ c =>
      have h6:4294967296^t*1≤4294967296^t*(c+1):=Nat.mul_le_mul_left _ (by omega)
      omega
    subst yl;simpa using hinv
   have:=kW.cV a b carry t site (words (nat site)) (by omega) (by omega) (trim site (by omega))
   rwa[Gw] at this
  |succ j ih =>
   intro t carry site hj ht hs hc hinv
   have h1:=mq a t
   have h2:=mq b t
   obtain⟨w,hw⟩:=gD ((carry+(wd a t+wd b t))%4294967296) (by omega)
   refine kW.l10 a b carry t site _ _ (wd a t+wd b t) (carry+(wd a t+wd b t)) w _ (by omega) (word a t) (word b t) (by omega) (by omega) hw.symm (by omega) rfl (by omega) ?_
   refine ih (t+1) _ (site.set t w) (by omega) (by omega) (by simpa using hs) (by simp;omega) ?_
   rw[fV (by omega),dM a t,dM b t,hw]
   have h5:(4294967296:Nat)^(t+1)=4294967296^t*4294967296:=Nat.pow_succ ..
   rw[h5,Nat.mul_assoc]
   have h6:4294967296^t*((carry+(wd a t+wd b t))%4294967296)+4294967296^t*(4294967296*((carry+(wd a t+wd b t))/2^min 32 64))=4294967296^t*carry+4294967296^t*wd a t+4294967296^t*wd b t:=by
    rw[←Nat.mul_add,←Nat.mul_add,←Nat.mul_add]
    congr 1
    have:(2:Nat)^min 32 64=4294967296:=by decide
    rw[this];omega
   omega
 exact kW.e0 a b (by omega) (by omega) (loop _ 0 0 _ rfl (by omega) (by simp) (by omega) (by simp[nat]))
end bN
end Go.Proofs.YtllmkadmohkbfaaGreatDoor.Sym
namespace Go.Proofs.YtllmkadmohkbfaaGreatDoor.Sym
open Go Path
def dC(a b:Int):Int:=if a<b then -1 else if a=b then 0 else 1
theorem ow{a b:Int}(h:a<b):dC a b = -1:=by simp[dC,h]
theorem mW{a b:Int}(h:b<a):dC a b=1:=by unfold dC;rw[if_neg (by omega),if_neg (by omega)]
theorem ym{a b:Int}(h:a=b):dC a b=0:=by unfold dC;rw[if_neg (by omega),if_pos h]
theorem wE(l:Words)(k:Nat){v:UInt32}(h:l[k]? = some v):nat l=nat (l.take k)+4294967296^k*v.toNat+4294967296^(k+1)*nat (l.drop (k+1)):=by
 have hk:=(List.getElem?_eq_some_iff.1 h).1
 rw[jl l k (by omega),pE h,Nat.pow_succ,Nat.mul_add,Nat.mul_assoc]
 omega
theorem zX{a b:Words}{k:Nat}{v w:UInt32}(ha:a[k]? = some v)(hb:b[k]? = some w)(hd:a.drop (k+1)=b.drop (k+1))(h:v.toNat<w.toNat):nat a<nat b:=by
 rw[wE a k ha,wE b k hb,hd]
 have h1:=dU (a.take k)
 have h2:=kV (show (a.take k).length≤k by simp;omega)
 have h3:4294967296^k*(v.toNat+1)≤4294967296^k*w.toNat:=Nat.mul_le_mul_left _ h
 rw[Nat.mul_add] at h3
 omega
namespace bN
theorem compare(a b:Words)(ha:cn a=true)(hb:cn b=true)(hl:a.length<9223372036854775808):Cp 138 [aa a,aa b] (vI (dC (nat a) (nat b))):=by
 by_cases hlen:a.length=b.length
 ·have loop:∀n:Nat,n≤a.length→a.drop n=b.drop n→dE.ah a b ((n:Int)-1) (vI (dC (nat a) (nat b))):=by
   intro n
   induction n with
   |zero =>
    intro _ hd
    have:a=b:=by simpa using hd
    rw[ym (by rw[this])]
    exact dE.ta a b _ (by omega)
   |succ n ih =>
    intro hn hd
    obtain⟨v,hv⟩:∃v,a[n]? = some v:=⟨_,List.getElem?_eq_getElem (by omega)⟩
    obtain⟨w,hw⟩:∃w,b[n]? = some w:=⟨_,List.getElem?_eq_getElem (by omega)⟩
    by_cases he:v.toNat=w.toNat
    ·refine dE.kI a b _ n v n w (by omega) (by omega) hv (by omega) hw he (by unfold ax;omega) ?_
     rw[show ((n+1:Nat):Int)-1-1=(n:Int)-1 from by omega]
     refine ih (by omega) ?_
     have h1:=List.getElem_of_getElem? hv
     obtain⟨h1,h2⟩:=List.getElem?_eq_some_iff.1 hv
     obtain⟨h3,h4⟩:=List.getElem?_eq_some_iff.1 hw
     rw[List.drop_eq_getElem_cons h1,List.drop_eq_getElem_cons h3,h2,h4,hd,Pj he]
    ·by_cases bh:v.toNat<w.toNat
     ·rw[ow (by have:=zX hv hw hd bh;omega)]
      exact dE.l10 a b _ n v n w n v n w (by omega) (by omega) hv (by omega) hw he (by omega) hv (by omega) hw bh
     ·rw[mW (by have:=zX hw hv hd.symm (by omega);omega)]
      exact dE.cV a b _ n v n w n v n w (by omega) (by omega) hv (by omega) hw he (by omega) hv (by omega) hw (by omega)
  refine dE.e2 a b hlen (by unfold ax;omega) (loop a.length (Nat.le_refl _) ?_)
  rw[List.drop_of_length_le (Nat.le_refl _),List.drop_of_length_le (by omega)]
 ·have key:∀x y:Words,cn y=true→x.length<y.length→nat x<nat y:=by
   intro x y hy bh
   have h1:=dU x
   have h2:=EB hy (by intro e;rw[e] at bh;simp at bh)
   have h3:=kV (show x.length≤y.length-1 by omega)
   omega
  by_cases bh:a.length<b.length
  ·rw[ow (by have:=key a b hb bh;omega)]
   exact dE.e0 a b hlen bh
  ·rw[mW (by have:=key b a ha (by omega);omega)]
   exact dE.e1 a b hlen (by omega)
theorem less(a b:Words)(ha:a.length≤2199023255552)(dm:nat b≤nat a):Cp 139 [aa a,aa b] (aa (words (nat a-nat b))):=by
 have loop:∀(j t borrow:Nat) (site:Words),a.length-t=j→t≤a.length→site.length=a.length→borrow≤1 →
   nat (site.take t)+nat (b.take t)=nat (a.take t)+4294967296^t*borrow→kY.ah a b borrow t site (aa (words (nat a-nat b))):=by
  intro j
  induction j with
  |zero =>
   intro t borrow site hj ht hs hc hinv
   have uY:t=a.length:=by omega
   have Gw:nat site=nat a-nat b:=by
    subst uY
    rw[aR (by omega),aR (l:=a) (by omega)] at hinv
    have h1:=dU a
    have h2:=dU site
    rw[hs] at h2
    have h3:nat (b.take a.length)=nat b:=by
     by_cases hl:b.length≤a.length
     ·exact aR hl
     ·have h4:=jl b a.length (by omega)
      have h5:nat (b.drop a.length)=0:=by
       refine Nat.eq_zero_of_not_pos fun hp => ?_
       have:=Nat.mul_le_mul_left (4294967296^a.length) hp
       omega
      rw[h5] at h4;omega
    have Hv:borrow=0:=by
     refine Nat.eq_zero_of_not_pos fun hp => ?_
     have:=Nat.mul_le_mul_left (4294967296^a.length) hp
     omega
    subst Hv
    omega
   have:=kY.cV a b borrow t site (words (nat site)) (by omega) (by omega) (trim site (by omega))
   rwa[Gw] at this
  |succ j ih =>
   intro t borrow site hj ht hs hc hinv
   obtain⟨v,hv⟩:∃v,a[t]? = some v:=⟨_,List.getElem?_eq_getElem (by omega)⟩
   have h1:=ij v
   have h2:=mq b t
   have hz:∃(d d1 x nb:Nat),((v.toNat:Nat)-(wd b t:Nat):Int)%18446744073709551616=(d:Int)∧((d:Nat)-(borrow:Nat):Int)%18446744073709551616=(d1:Int)∧d1%4294967296=x∧d1/2^min 63 64=nb∧nb≤1∧x<4294967296∧x+wd b t+borrow=v.toNat+4294967296*nb:=by
    refine⟨(((v.toNat:Nat)-(wd b t:Nat):Int)%18446744073709551616).toNat,((((v.toNat:Nat)-(wd b t:Nat):Int)%18446744073709551616-borrow)%18446744073709551616).toNat,_,_,by omega,by omega,rfl,rfl,?_⟩
    have e:(2:Nat)^min 63 64=9223372036854775808:=by decide
    rw[e]
    generalize wd b t=q at *
    generalize v.toNat=p at *
    by_cases N2:q+borrow≤p
    ·have e1:(((p:Int)-(q:Int))%18446744073709551616-borrow)%18446744073709551616=(p:Int)-q-borrow:=by omega
     rw[e1];omega
    ·have e1:(((p:Int)-(q:Int))%18446744073709551616-borrow)%18446744073709551616=(p:Int)-q-borrow+18446744073709551616:=by omega
     rw[e1];omega
   obtain⟨d,d1,x,nb,g1,g2,g3,g4,g5,g6,g7⟩:=hz
   obtain⟨w,hw⟩:=gD x g6
   refine kY.l10 a b borrow t site v _ d d1 w nb (by omega) hv (word b t) g1 g2 (by omega) (by omega) g4 (by omega) ?_
   refine ih (t+1) nb (site.set t w) (by omega) (by omega) (by simpa using hs) g5 ?_
   rw[fV (by omega),bR hv,dM b t,hw,Nat.pow_succ,Nat.mul_assoc]
   have h6:4294967296^t*x+4294967296^t*wd b t+4294967296^t*borrow=4294967296^t*v.toNat+4294967296^t*(4294967296*nb):=by
    rw[←Nat.mul_add,←Nat.mul_add,←Nat.mul_add,g7]
   omega
 exact kY.e0 a b (by omega) (loop _ 0 0 _ rfl (by omega) (by simp) (by omega) (by simp[nat]))
theorem vb{p q:Nat}(hp:p<4294967296)(hq:q<4294967296):p*q≤18446744065119617025:=by
 have:=Nat.mul_le_mul (show p≤4294967295 by omega) (show q≤4294967295 by omega)
 omega
theorem times(a b:Words)(ha:a.length≤2199023255552)(hb:b.length≤2199023255552):Cp 173 [aa a,aa b] (aa (words (nat a*nat b))):=by
 have inner:∀(i:Nat) (v:UInt32) (r:PV),i<a.length→(∀site:Words,site.length=a.length+b.length→nat site=nat (a.take i)*nat b+4294967296^i*(v.toNat*nat b)→(∀q,i+1+b.length≤q→q<site.length→wd site q=0)→eJ.ah b a (i+1) site r) →
   ∀(j k carry:Nat) (site:Words),b.length-k=j→k≤b.length→site.length=a.length+b.length→carry<4294967296→(∀q,i+b.length≤q→q<site.length→wd site q=0) →
   nat site+4294967296^(i+k)*carry=nat (a.take i)*nat b+4294967296^i*(v.toNat*nat (b.take k))→eJ.bA b a i v carry i k site r:=by
  intro i v r hi F6 j
  induction j with
  |zero =>
   intro k carry site hj hk hs hc hz hinv
   have Uu:k=b.length:=by omega
   subst Uu
   obtain⟨w,hw⟩:=gD carry hc
   refine eJ.Be b a i v carry i b.length site w (by omega) (by omega) (by omega) (by omega) (by omega) (by omega) (F6 _ (by simpa using hs) ?_ ?_)
   ·obtain⟨u,hu⟩:∃u,site[i+b.length]? = some u:=⟨_,List.getElem?_eq_getElem (by omega)⟩
    have h0:=hz (i+b.length) (by omega) (by omega)
    rw[iF hu] at h0
    have h1:=ot site (i+b.length) w u hu
    rw[h0,hw] at h1
    rw[aR (l:=b) (by omega)] at hinv
    omega
   ·intro q QQ Fx
    rw[List.length_set] at Fx
    have:=hz q (by omega) Fx
    unfold wd at this ⊢
    rw[List.getElem?_set_ne (by omega)]
    exact this
  |succ j ih =>
   intro k carry site hj hk hs hc hz hinv
   obtain⟨u,hu⟩:∃u,b[k]? = some u:=⟨_,List.getElem?_eq_getElem (by omega)⟩
   obtain⟨x,hx⟩:∃x,site[i+k]? = some x:=⟨_,List.getElem?_eq_getElem (by omega)⟩
   have h1:=vb (ij v) (ij u)
   have h2:=ij x
   generalize hp:v.toNat*u.toNat=p at *
   obtain⟨w,hw⟩:=gD ((carry+(p+x.toNat))%4294967296) (by omega)
   have e:(2:Nat)^min 32 64=4294967296:=by decide
   refine eJ.yj b a i v carry i k site u p x (p+x.toNat) (carry+(p+x.toNat)) w ((carry+(p+x.toNat))/4294967296) (by omega) hu (by rw[hp];omega) (by omega) (by omega) hx (by omega) (by omega) hw.symm (by omega) (by rw[e]) (by omega) ?_
   refine ih (k+1) _ (site.set (i+k) w) (by omega) (by omega) (by simpa using hs) (by omega) ?_ ?_
   ·intro q QQ Fx
    rw[List.length_set] at Fx
    have:=hz q QQ Fx
    unfold wd at this ⊢
    rw[List.getElem?_set_ne (by omega)]
    exact this
   ·have g1:=ot site (i+k) w x hx
    rw[hw] at g1
    rw[bR hu,show i+(k+1)=i+k+1 from rfl,Nat.pow_succ,Nat.mul_assoc]
    have g2:4294967296^(i+k)*((carry+(p+x.toNat))%4294967296)+4294967296^(i+k)*(4294967296*((carry+(p+x.toNat))/4294967296))=4294967296^(i+k)*carry+4294967296^(i+k)*p+4294967296^(i+k)*x.toNat:=by
     rw[←Nat.mul_add,←Nat.mul_add,←Nat.mul_add];congr 1;omega
    have g3:4294967296^i*(v.toNat*(nat (b.take k)+4294967296^k*u.toNat))=4294967296^i*(v.toNat*nat (b.take k))+4294967296^(i+k)*p:=by
     rw[←hp,Nat.pow_add,Nat.mul_add,Nat.mul_add]
     congr 1
     rw[Nat.mul_assoc];congr 1
     rw[Nat.mul_left_comm]
    omega
 have loop:∀(j t:Nat) (site:Words),a.length-t=j→t≤a.length→site.length=a.length+b.length→nat site=nat (a.take t)*nat b→(∀q,t+b.length≤q→q<site.length→wd site q=0) →
   eJ.ah b a t site (aa (words (nat a*nat b))):=by
  intro j
  induction j with
  |zero =>
   intro t site hj ht hs hinv _
   rw[aR (by omega)] at hinv
   have:=eJ.cV b a t site (words (nat site)) (by omega) (by omega) (trim site (by omega))
   rwa[hinv] at this
  |succ j ih =>
   intro t site hj ht hs hinv hz
   obtain⟨v,hv⟩:∃v,a[t]? = some v:=⟨_,List.getElem?_eq_getElem (by omega)⟩
   refine eJ.l10 b a t site v (by omega) hv ?_
   refine inner t v _ (by omega) (fun Ku Io Rk L4 => ?_) _ 0 0 site rfl (by omega) hs (by omega) hz ?_
   ·refine ih (t+1) Ku (by omega) (by omega) Io ?_ L4
    rw[Rk,bR hv,Nat.add_mul,Nat.mul_assoc]
   ·simp[nat,hinv]
 refine eJ.e0 a b (by omega) (by omega) (loop _ 0 _ rfl (by omega) (by simp) (by simp[nat,lV]) ?_)
 intro q _ hq
 unfold wd
 rw[List.getElem?_replicate]
 split
 ·rename_i w h
  split at h
  ·injection h with h;subst h;rfl
  ·cases h
 ·rfl
theorem C1{x y:Nat}(hx:x<4294967296)(hy:y<4294967296):((x*4294967296)%18446744073709551616) ||| (y%18446744073709551616)=x*4294967296+y:=by
 rw[Nat.mod_eq_of_lt (by omega),Nat.mod_eq_of_lt (by omega),Nat.mul_comm]
 exact(Nat.two_pow_add_eq_or_of_lt (i:=32) hy x).symm
theorem short(a:Words)(b:UInt32)(ha:a.length≤2199023255552)(hb:b.toNat≠0):Cp 214 [aa a,vW b] (.aE [aa (words (nat a/b.toNat)),vW (UInt32.ofNat (nat a%b.toNat))]):=by
 have Pd:=ij b
 have loop:∀(n rest:Nat) (site:Words),n≤a.length→site.length=a.length→rest<b.toNat→nat (a.drop n)=nat (site.drop n)*b.toNat+rest →
   jR.ah a b rest ((n:Int)-1) site (.aE [aa (words (nat a/b.toNat)),vW (UInt32.ofNat (nat a%b.toNat))]):=by
  intro n
  induction n with
  |zero =>
   intro rest site _ hs hr hinv
   simp only[List.drop_zero] at hinv
   have h1:nat a/b.toNat=nat site:=by rw[hinv,Nat.mul_comm,Nat.mul_add_div (by omega),Nat.div_eq_of_lt hr,Nat.add_zero]
   have h2:nat a%b.toNat=rest:=by rw[hinv,Nat.mul_comm,Nat.mul_add_mod,Nat.mod_eq_of_lt hr]
   have hw:rest%4294967296=(UInt32.ofNat rest).toNat:=(sA rest).symm
   rw[h1,h2]
   exact jR.cV a b rest _ site (words (nat site)) _ (by omega) hs.symm (trim site (by omega)) hw
  |succ n ih =>
   intro rest site hn hs hr hinv
   obtain⟨v,hv⟩:∃v,a[n]? = some v:=⟨_,List.getElem?_eq_getElem (by omega)⟩
   have yQ:=ij v
   have e:(2:Nat)^min 32 64=4294967296:=by decide
   have hq:(rest*4294967296+v.toNat)/b.toNat<4294967296:=by
    rw[Nat.div_lt_iff_lt_mul (by omega)]
    have:=Nat.mul_le_mul_right 4294967296 (show rest+1≤b.toNat by omega)
    rw[Nat.add_mul] at this
    rw[Nat.mul_comm 4294967296];omega
   obtain⟨w,hw⟩:=gD _ hq
   refine jR.l10 a b rest _ site _ n v (rest*4294967296+v.toNat) ((rest*4294967296+v.toNat)/b.toNat) w n ((rest*4294967296+v.toNat)%b.toNat) (by omega) rfl (by omega) hv ?_ hb (by omega) (by omega) (by omega) (by omega) (by omega) rfl (by unfold ax;omega) ?_
   ·rw[e,Nat.mod_eq_of_lt (show rest*4294967296<18446744073709551616 by omega)]
    exact(by have:=C1 (show rest<4294967296 by omega) yQ;rw[Nat.mod_eq_of_lt (show rest*4294967296<18446744073709551616 by omega)] at this;rw[Nat.mod_eq_of_lt (show rest*4294967296<18446744073709551616 by omega)];exact this)
   ·rw[show ((n+1:Nat):Int)-1-1=(n:Int)-1 from by omega]
    refine ih _ (site.set n w) (by omega) (by simpa using hs) (Nat.mod_lt _ (by omega)) ?_
    rw[pE hv,pE (l:=site.set n w) (v:=w) (by rw[List.getElem?_set_self (by omega)]),List.drop_set_of_lt (by omega),hinv,hw]
    have h5:=Nat.div_add_mod (rest*4294967296+v.toNat) b.toNat
    generalize (rest*4294967296+v.toNat)/b.toNat=q at *
    generalize (rest*4294967296+v.toNat)%b.toNat=m at *
    generalize nat (site.drop (n+1))=S at *
    generalize b.toNat=B at *
    rw[Nat.add_mul,Nat.mul_add,Nat.mul_comm q B]
    rw[←Nat.mul_assoc]
    omega
 have:=jR.e0 a b (r:=_) (by omega) (by unfold ax;omega) (loop a.length 0 _ (Nat.le_refl _) (by simp) (by omega) (by rw[List.drop_of_length_le (Nat.le_refl _),List.drop_of_length_le (by simp)];simp[nat]))
 exact this
end bN
end Go.Proofs.YtllmkadmohkbfaaGreatDoor.Sym
namespace Go.Proofs.YtllmkadmohkbfaaGreatDoor.Sym
open Go Path
def blen(n:Nat):Nat:=bif Nat.beq n 0 then 0 else Nat.log2 n+1
theorem MX{n k:Nat}(h1:2^k≤n)(h2:n<2^(k+1)):blen n=k+1:=by
 have h0:n≠0:=by have:=Nat.two_pow_pos k;omega
 have hb:Nat.beq n 0=false:=by
  cases hb:Nat.beq n 0 with
  |true=>exact absurd (Nat.eq_of_beq_eq_true hb) h0
  |false=>rfl
 unfold blen
 rw[hb,cond_false]
 congr 1
 have g1:=(Nat.le_log2 h0).2 h1
 have g2:=(Nat.log2_lt h0).2 h2
 omega
theorem sE:blen 0=0:=rfl
theorem sF{n:Nat}(h:n≠0):∃k,blen n=k+1∧2^k≤n∧n<2^(k+1):=by
 have hb:Nat.beq n 0=false:=by
  cases hb:Nat.beq n 0 with
  |true=>exact absurd (Nat.eq_of_beq_eq_true hb) h
  |false=>rfl
 refine⟨Nat.log2 n,?_,Nat.log2_self_le h,Nat.lt_log2_self⟩
 unfold blen
 rw[hb,cond_false]
theorem rK{n k:Nat}(h:2^k≤n):blen n=k+blen (n/2^k):=by
 have hk:=Nat.two_pow_pos k
 have h0:n/2^k≠0:=by
  have:=Nat.div_pos h hk
  omega
 obtain⟨m,h1,h2,h3⟩:=sF h0
 have:=MX (n:=n) (k:=k+m) (by
  rw[Nat.pow_add]
  have:=Nat.mul_le_mul_left (2^k) h2
  have:=Nat.mul_div_le n (2^k)
  omega) (by
  have h4:=(Nat.div_lt_iff_lt_mul hk).1 h3
  rw[←Nat.pow_add] at h4
  rw[show k+m+1=m+1+k from by omega]
  exact h4)
 omega
theorem qw{n k:Nat}(h:n<2^k):blen n≤k:=by
 by_cases h0:n=0
 ·subst h0;simp[sE]
 ·obtain⟨m,h1,h2,_⟩:=sF h0
  have:=(Nat.pow_lt_pow_iff_right (a:=2) (by omega)).1 (Nat.lt_of_le_of_lt h2 h)
  omega
theorem MY(n:Nat):n<2^blen n:=by
 by_cases h0:n=0
 ·subst h0;simp[sE]
 ·obtain⟨m,h1,_,h3⟩:=sF h0
  rw[h1];exact h3
namespace N7
def Wm:ByteArray:=(ByteArray.mk #[0,1,2,2,3,3,3,3,4,4,4,4,4,4,4,4,5,5,5,5,5,5,5,5,5,5,5,5,5,5,5,5,6,6,6,6,6,6,6,6,6,6,6,6,6,6,6,6,6,6,6,6,6,6,6,6,6,6,6,6,6,6,6,6,7,7,7,7,7,7,7,7,7,7,7,7,7,7,7,7,7,7,7,7,7,7,7,7,7,7,7,7,7,7,7,7,7,7,7,7,7,7,7,7,7,7,7,7,7,7,7,7,7,7,7,7,7,7,7,7,7,7,7,7,7,7,7,7,8,8,8,8,8,8,8,8,8,8,8,8,8,8,8,8,8,8,8,8,8,8,8,8,8,8,8,8,8,8,8,8,8,8,8,8,8,8,8,8,8,8,8,8,8,8,8,8,8,8,8,8,8,8,8,8,8,8,8,8,8,8,8,8,8,8,8,8,8,8,8,8,8,8,8,8,8,8,8,8,8,8,8,8,8,8,8,8,8,8,8,8,8,8,8,8,8,8,8,8,8,8,8,8,8,8,8,8,8,8,8,8,8,8,8,8,8,8,8,8,8,8,8,8,8,8,8,8])
theorem MZ:(List.range 256).all (fun m=>((Wm.data.toList[m]?).map fun b=>(b.toNat:Int))==some (blen m:Int))=true:=by decide +kernel
theorem C2{m:Nat}(h:m<256):((Wm.data.toList[m]?).map fun b=>(b.toNat:Int))=some (blen m:Int):=by
 have:=MZ
 rw[List.all_eq_true] at this
 simpa using this m (by simpa using h)
theorem RO(x:UInt32):Cp 292 [vW x] (vI (blen x.toNat)):=by
 have hx:=ij x
 have Wn:(2:Nat)^min 16 32=65536:=by decide
 have e8:(2:Nat)^min 8 32=256:=by decide
 by_cases h1:65536≤x.toNat
 ·obtain⟨z,hz⟩:=gD (x.toNat/65536) (by omega)
  have b1:=rK (n:=x.toNat) (k:=16) h1
  rw[show (2:Nat)^16=65536 from rfl] at b1
  by_cases h2:256≤x.toNat/65536
  ·obtain⟨z1,ED⟩:=gD (x.toNat/65536/256) (by omega)
   have b2:=rK (n:=x.toNat/65536) (k:=8) h2
   rw[show (2:Nat)^8=256 from rfl] at b2
   have b3:=qw (n:=x.toNat/65536/256) (k:=8) (by rw[show (2:Nat)^8=256 from rfl];omega)
   have:=im.e0 x z z1 (x.toNat/65536/256) (blen (x.toNat/65536/256)) h1 (by rw[Wn,hz]) (by omega) (by rw[e8,ED,hz]) (by omega) (C2 (by omega)) (by omega) (by omega)
   rw[b1,b2,←Nat.add_assoc];exact this
  ·have b3:=qw (n:=x.toNat/65536) (k:=8) (by rw[show (2:Nat)^8=256 from rfl];omega)
   have:=im.e1 x z (x.toNat/65536) (blen (x.toNat/65536)) h1 (by rw[Wn,hz]) (by omega) (by omega) (C2 (by omega)) (by omega) (by omega)
   rw[b1];exact this
 ·by_cases h2:256≤x.toNat
  ·obtain⟨z,hz⟩:=gD (x.toNat/256) (by omega)
   have b1:=rK (n:=x.toNat) (k:=8) h2
   rw[show (2:Nat)^8=256 from rfl] at b1
   have b3:=qw (n:=x.toNat/256) (k:=8) (by rw[show (2:Nat)^8=256 from rfl];omega)
   have:=im.e2 x z (x.toNat/256) (blen (x.toNat/256)) (by omega) h2 (by rw[e8,hz]) (by omega) (C2 (by omega)) (by omega) (by omega)
   rw[b1];exact this
  ·have b3:=qw (n:=x.toNat) (k:=8) (by rw[show (2:Nat)^8=256 from rfl];omega)
   have:=im.e3 x x.toNat (blen x.toNat) (by omega) (by omega) (by omega) (C2 (by omega)) (by omega) (by omega)
   rw[Nat.zero_add] at this;exact this
theorem zY(x:UInt32):Cp 269 [vW x] (vI ((32-blen x.toNat:Nat):Int)):=by
 have h:=qw (n:=x.toNat) (k:=32) (ij x)
 have:=jS.e0 x _ (RO x) (by unfold ax;omega)
 rw[show ((32-blen x.toNat:Nat):Int)=32-(blen x.toNat:Int) from by omega]
 exact this
end N7
theorem BO{s:Nat}(hs:s≤32):2^s*2^(32-s)=4294967296:=by
 rw[←Nat.pow_add,show s+(32-s)=32 from by omega]
namespace bN
theorem M0{v1 v:Nat}{s:Nat}(hs:s<32)(h1:v1<2^s)(hv:v<4294967296) :
  ∃y w z x,(v*2^min s 64)%18446744073709551616=y∧y%4294967296=w∧(v1%4294967296) ||| (w%4294967296)=z∧z<4294967296∧y/4294967296=x∧x<2^s∧w<4294967296∧z+4294967296*x=v1+v*2^s:=by
 have e:=BO (show s≤32 by omega)
 have hp:=Nat.two_pow_pos s
 have hle:2^s≤2147483648:=by
  have:=Nat.pow_le_pow_right (n:=2) (by omega) (show s≤31 by omega)
  simpa using this
 have JM:min s 64=s:=by omega
 rw[JM]
 have hb:v*2^s<18446744073709551616:=by
  have:=Nat.mul_le_mul (show v≤4294967295 by omega) hle
  omega
 rw[Nat.mod_eq_of_lt hb]
 generalize hP:2^s=p at *
 generalize hQ:2^(32-s)=q at *
 have hw:(v*p)%4294967296=p*(v%q):=by rw[←e,Nat.mul_comm v p,Nat.mul_mod_mul_left]
 have hx:(v*p)/4294967296=v/q:=by rw[←e,Nat.mul_comm v p,Nat.mul_div_mul_left _ _ hp]
 have hq:0<q:=by rw[←hQ];exact Nat.two_pow_pos _
 have hm:=Nat.mod_lt v hq
 have bh:p*(v%q)+p≤4294967296:=by
  have:=Nat.mul_le_mul_left p (show v%q+1≤q by omega)
  rw[Nat.mul_add,e] at this;omega
 have QS:v1 ||| p*(v%q)=p*(v%q)+v1:=by
  rw[Nat.or_comm]
  subst hP
  exact(Nat.two_pow_add_eq_or_of_lt h1 (v%q)).symm
 refine⟨_,_,_,_,rfl,rfl,rfl,?_,rfl,?_,by omega,?_⟩
 ·rw[hw,Nat.mod_eq_of_lt (show v1<4294967296 by omega),Nat.mod_eq_of_lt (show p*(v%q)<4294967296 by omega),QS];omega
 ·rw[hx,Nat.div_lt_iff_lt_mul hq,e];exact hv
 ·rw[hw,Nat.mod_eq_of_lt (show v1<4294967296 by omega),Nat.mod_eq_of_lt (show p*(v%q)<4294967296 by omega),QS,hx]
  have:=Nat.div_add_mod v q
  have h3:p*v=p*(q*(v/q))+p*(v%q):=by rw[←Nat.mul_add,this]
  rw[←Nat.mul_assoc,e] at h3
  rw[Nat.mul_comm v p];omega
def M1(a:Words)(s t:Nat)(site:Words):Prop:=site.length=a.length+1∧nat site=nat (a.take t)*2^s∧(∀q,t<q→q<site.length→wd site q=0)∧wd site t<2^s
theorem M4{a:Words}{s t:Nat}{site:Words}{v v1 z x:UInt32}(hi:M1 a s t site)(ht:t<a.length)(hv:a[t]? = some v)(zZ:site[t]? = some v1)(hx:x.toNat<2^s)(he:z.toNat+4294967296*x.toNat=v1.toNat+v.toNat*2^s) :
  M1 a s (t+1) ((site.set t z).set (t+1) x):=by
 obtain⟨h1,h2,h3,h4⟩:=hi
 refine⟨by simpa using h1,?_,fun q QQ Fx => ?_,?_⟩
 ·obtain⟨u,hu⟩:∃u,(site.set t z)[t+1]? = some u:=⟨_,List.getElem?_eq_getElem (by simp;omega)⟩
  have Mp:u.toNat=0:=by
   have:=h3 (t+1) (by omega) (by omega)
   rw[List.getElem?_set_ne (by omega)] at hu
   rw[iF hu] at this;exact this
  have g1:=ot site t z v1 zZ
  have g2:=ot (site.set t z) (t+1) x u hu
  rw[Mp,Nat.mul_zero,Nat.add_zero,Nat.pow_succ,Nat.mul_assoc] at g2
  rw[bR hv,Nat.add_mul,←h2]
  have g3:4294967296^t*z.toNat+4294967296^t*(4294967296*x.toNat)=4294967296^t*v1.toNat+4294967296^t*v.toNat*2^s:=by
   rw[←Nat.mul_add,he,Nat.mul_add,Nat.mul_assoc]
  omega
 ·rw[List.length_set,List.length_set] at Fx
  have:=h3 q (by omega) Fx
  unfold wd at this ⊢
  rw[List.getElem?_set_ne (by omega),List.getElem?_set_ne (by omega)]
  exact this
 ·rw[iF (v:=x) (by rw[List.getElem?_set_self (by simp;omega)])];exact hx
theorem M5(a:Words)(s:Nat):M1 a s 0 (List.replicate (a.length+1) (0:UInt32)):=by
 refine⟨by simp,by simp[nat,lV],fun q _ hq => ?_,?_⟩
 ·unfold wd
  rw[List.getElem?_replicate]
  rw[List.length_replicate] at hq
  rw[if_pos hq];rfl
 ·unfold wd
  rw[List.getElem?_replicate,if_pos (by omega)]
  exact Nat.two_pow_pos s
theorem up(a:Words)(s:Nat)(ha:a.length≤2199023255552)(hs:s<32):∃z:Words,z.length=a.length+1∧nat z=nat a*2^s∧Cp 270 [aa a,vI (s:Int)] (aa z) ∧
  av bp 270 [.pv (aa a),.pv (vI (s:Int))] [] (.row 0 0 (a.length+1) 1) [(0,(.pure ((z:List UInt32).map ag).flatten))]:=by
 have loop:∀(j t:Nat) (site:Words),a.length-t=j→t≤a.length→M1 a s t site →
   ∃z:Words,z.length=a.length+1∧nat z=nat a*2^s∧nE.ah (s:Int) a t site (aa z)∧mo.ah (s:Int) a t site [] (.row 0 0 (a.length+1) 1) [(0,(.pure ((z:List UInt32).map ag).flatten))]:=by
  intro j
  induction j with
  |zero =>
   intro t site hj ht hi
   obtain⟨h1,h2,_,_⟩:=hi
   rw[aR (by omega)] at h2
   exact⟨site,h1,h2,nE.cV _ a t site (by omega) h1.symm,by have h9:=mo.cV (s:Int) a t site (sin:=[]) rfl rfl (by omega);rw[List.take_of_length_le (by omega)] at h9;exact h9⟩
  |succ j ih =>
   intro t site hj ht hi
   obtain⟨v,hv⟩:∃v,a[t]? = some v:=⟨_,List.getElem?_eq_getElem (by omega)⟩
   obtain⟨v1,zZ⟩:∃v1,site[t]? = some v1:=⟨_,List.getElem?_eq_getElem (by have:=hi.1;omega)⟩
   have Uv:v1.toNat<2^s:=by have:=hi.2.2.2;rw[iF zZ] at this;exact this
   obtain⟨y,w,z,x,g1,g2,g3,g4,g5,g6,g7,g8⟩:=M0 hs Uv (ij v)
   obtain⟨w',Wo⟩:=gD w g7
   obtain⟨z',L4⟩:=gD z g4
   have hp:=Nat.pow_le_pow_right (n:=2) (by omega) (show s≤32 by omega)
   have hp:2^s≤4294967296:=hp
   obtain⟨x',CB⟩:=gD x (by omega)
   have e:(2:Nat)^min 32 64=4294967296:=by decide
   have hlen:=hi.1
   obtain⟨zz,q1,q2,q3,q4⟩:=ih (t+1) _ (by omega) (by omega) (M4 hi (by omega) hv zZ (x:=x') (z:=z') (by omega) (by rw[L4,CB];exact g8))
   refine⟨zz,q1,q2,?_,?_⟩
   ·exact nE.l10 _ a t site v s y v1 w' z' x x' (by omega) hv rfl g1 (by omega) zZ (by omega) (by rw[Wo];omega) (by omega) (by omega) (by rw[e];exact g5) (by omega) (by omega) (by simp;omega) q3
   ·exact mo.l10 _ a t site v s y v1 w' z' x x' rfl (by omega) hv rfl g1 (by omega) zZ (by omega) (by rw[Wo];omega) (by omega) (by omega) (by rw[e];exact g5) (by omega) (by omega) (by simp;omega) q4
 obtain⟨z,h1,h2,h3,h4⟩:=loop a.length 0 _ rfl (by omega) (M5 a s)
 exact⟨z,h1,h2,nE.e0 a _ (by omega) (by omega) h3,mo.e0 a _ (by omega) (by omega) h4⟩
theorem M6{x y:Nat}(hx:x<4294967296)(hy:y<4294967296):(x%18446744073709551616) ||| ((y*4294967296)%18446744073709551616%18446744073709551616)=y*4294967296+x:=by
 rw[Nat.or_comm,Nat.mod_mod];exact C1 hy hx
theorem iS(a:Words)(t:Nat):nat (a.drop t)=wd a t+4294967296*nat (a.drop (t+1)):=by
 by_cases h:t<a.length
 ·have hv:=List.getElem?_eq_getElem h
  rw[pE hv,iF hv]
 ·rw[List.drop_of_length_le (by omega),List.drop_of_length_le (by omega),va (by omega)];rfl
theorem rL(a:Words)(t:Nat)(ht:t≤a.length):nat a/4294967296^t=nat (a.drop t):=by
 have h1:=dU (a.take t)
 rw[List.length_take,Nat.min_eq_left ht] at h1
 rw[jl a t ht,Nat.add_comm,Nat.mul_add_div (by omega),Nat.div_eq_of_lt h1,Nat.add_zero]
theorem down(a:Words)(s:Nat)(ha:a.length≤2199023255552)(hs:s<32):Cp 273 [aa a,vI (s:Int)] (aa (words (nat a/2^s))):=by
 have hp:=Nat.two_pow_pos s
 have e2:=BO (show s≤32 by omega)
 have loop:∀(j t:Nat) (site:Words),a.length-t=j→t≤a.length→site.length=a.length→nat (site.take t)=(nat a/2^s)%4294967296^t→ld.ah a (s:Int) t site (aa (words (nat a/2^s))):=by
  intro j
  induction j with
  |zero =>
   intro t site hj ht hl hinv
   have uY:t=a.length:=by omega
   subst uY
   rw[aR (by omega),Nat.mod_eq_of_lt (Nat.lt_of_le_of_lt (Nat.div_le_self _ _) (dU a))] at hinv
   have:=ld.cV a (s:Int) a.length site (words (nat site)) (by omega) hl.symm (trim site (by omega))
   rwa[hinv] at this
  |succ j ih =>
   intro t site hj ht hl hinv
   obtain⟨v,hv⟩:∃v,a[t]? = some v:=⟨_,List.getElem?_eq_getElem (by omega)⟩
   have h1:=ij v
   have h2:=mq a (t+1)
   have e:(2:Nat)^min 32 64=4294967296:=by decide
   obtain⟨w,hw⟩:=gD ((wd a (t+1)*4294967296+v.toNat)/2^s%4294967296) (Nat.mod_lt _ (by omega))
   refine ld.l10 a (s:Int) t site v (wd a (t+1)) _ (wd a (t+1)*4294967296+v.toNat) s ((wd a (t+1)*4294967296+v.toNat)/2^s) w (by omega) hv (by omega) (word a (t+1)) rfl (by rw[e];exact M6 h1 h2) rfl (by rw[show min s 64=s from by omega]) hw.symm (by omega) ?_
   refine ih (t+1) (site.set t w) (by omega) (by omega) (by simpa using hl) ?_
   rw[fV (by omega),hinv,hw]
   have g1:nat a/2^s/4294967296^t=nat (a.drop t)/2^s:=by
    rw[Nat.div_div_eq_div_mul,Nat.mul_comm,←Nat.div_div_eq_div_mul,rL a t (by omega)]
   have g2:nat (a.drop t)/2^s%4294967296=(wd a (t+1)*4294967296+v.toNat)/2^s%4294967296:=by
    rw[iS a t,iS a (t+1),iF hv]
    generalize nat (a.drop (t+1+1))=r
    generalize wd a (t+1)=y
    generalize v.toNat=x
    generalize hP:2^s=p at *
    generalize hQ:2^(32-s)=q at *
    have:x+4294967296*(y+4294967296*r)=p*(4294967296*(q*r))+(y*4294967296+x):=by
     have:p*(4294967296*(q*r))=4294967296*(4294967296*r):=by
      rw[Nat.mul_left_comm p 4294967296,←Nat.mul_assoc p q r,e2]
     omega
    rw[this,Nat.mul_add_div hp,Nat.mul_add_mod]
   have g3:=Nat.mod_mul (a:=4294967296^t) (b:=4294967296) (x:=nat a/2^s)
   rw[Nat.pow_succ,g3,g1,g2]
 exact ld.e0 a (s:Int) (by omega) (loop _ 0 _ rfl (by omega) (by simp) (by simp[nat,Nat.mod_one]))
theorem vc{α:Type}(A U C:List α)(t:Nat)(x:α)(ht:t<U.length):(A++(U++C)).set (A.length+t) x=A++(U.set t x++C):=by
 rw[List.set_append_right _ _ (by omega),show A.length+t-A.length=t from by omega,List.set_append_left _ _ ht]
theorem gr{α:Type}(A U C:List α)(t:Nat)(x:α)(h:U[t]? = some x):(A++(U++C))[A.length+t]? = some x:=by
 have ht:=(List.getElem?_eq_some_iff.1 h).1
 rw[List.getElem?_append_right (by omega),show A.length+t-A.length=t from by omega,List.getElem?_append_left ht]
 exact h
abbrev j6(A U C:Words):SC := .pure (((A++(U++C):List UInt32)).map ag).flatten
theorem remove(A U C v:Words)(n off len:Nat)(ho:off=A.length)(hlen:len=U.length)(hU:U.length≤2199023255553)(hn:n<4294967296)(hb:n*nat v<4294967296^U.length)(yQ:v.length≤U.length) :
  ∃(U':Words) (bo:Bool),U'.length=U.length∧((bo=false→nat U'+n*nat v=nat U)∧(bo=true→nat U'+n*nat v=nat U+4294967296^U.length)) ∧
   av bp 271 [.row 100000 off len 1,.pv (aa v),.pv (vU n)] [(100000,j6 A U C)] (.pv (vB bo)) [(100000,j6 A U' C)]:=by
 subst ho;subst hlen
 have loop:∀(j t carry borrow:Nat) (U0:Words),U.length-t=j→t≤U.length→U0.length=U.length→borrow≤1→carry<4294967296→4294967296^t*carry≤n*nat (v.take t)→(∀q,t≤q→U0[q]? = U[q]?) →
   nat (U0.take t)+n*nat (v.take t)=nat (U.take t)+4294967296^t*(carry+borrow) →
   ∃(U':Words) (bo:Bool),U'.length=U.length∧((bo=false→nat U'+n*nat v=nat U)∧(bo=true→nat U'+n*nat v=nat U+4294967296^U.length)) ∧
    iR.ah A.length U.length v n carry borrow t (A++(U0++C)) [(100000,j6 A U C)] (.pv (vB bo)) [(100000,j6 A U' C)]:=by
  intro j
  induction j with
  |zero =>
   intro t carry borrow U0 hj ht hl RP N8 qQ _ hinv
   have uY:t=U.length:=by omega
   subst uY
   rw[aR (l:=v) yQ] at hinv qQ
   rw[aR (by omega),aR (l:=U) (by omega)] at hinv
   have yl:carry=0:=by
    refine Nat.eq_zero_of_not_pos fun hp => ?_
    have:=Nat.mul_le_mul_left (4294967296^U.length) hp
    omega
   subst yl
   refine⟨U0,decide ((borrow:Int)=1),hl,?_,?_⟩
   ·by_cases h1:borrow=1
    ·subst h1
     exact⟨fun h=>by simp at h,fun _=>by rw[hinv];simp⟩
    ·have h0:borrow=0:=by omega
     subst h0
     exact⟨fun _=>by rw[hinv];simp,fun h=>by simp at h⟩
   ·have:=iR.cV A.length U.length v n 0 borrow U.length (A++(U0++C)) (sin:=[(100000,j6 A U C)]) rfl rfl (by omega)
    have e:((borrow:Int)==1)=decide ((borrow:Int)=1):=by
     by_cases h1:borrow=1
     ·subst h1;rfl
     ·have h0:borrow=0:=by omega
      subst h0;rfl
    rw[e] at this;exact this
  |succ j ih =>
   intro t carry borrow U0 hj ht hl RP N8 qQ gA hinv
   obtain⟨x,hx⟩:∃x,U[t]? = some x:=⟨_,List.getElem?_eq_getElem (by omega)⟩
   have NX:U0[t]? = some x:=by rw[gA t (Nat.le_refl t)];exact hx
   have h1:=mq v t
   have h2:=ij x
   have h3:=vb hn h1
   have e:(2:Nat)^min 32 64=4294967296:=by decide
   generalize hp:n*wd v t=p at *
   obtain⟨lo,Fy⟩:=gD ((carry+p)%4294967296) (by omega)
   have hz:∃(d d1 y nb:Nat),((x.toNat:Nat)-(lo.toNat:Nat):Int)%18446744073709551616=(d:Int)∧((d:Nat)-(borrow:Nat):Int)%18446744073709551616=(d1:Int)∧d1%4294967296=y∧d1/2^min 63 64=nb∧nb≤1∧y<4294967296∧y+lo.toNat+borrow=x.toNat+4294967296*nb:=by
    have Pp:=ij lo
    refine⟨(((x.toNat:Nat)-(lo.toNat:Nat):Int)%18446744073709551616).toNat,((((x.toNat:Nat)-(lo.toNat:Nat):Int)%18446744073709551616-borrow)%18446744073709551616).toNat,_,_,by omega,by omega,rfl,rfl,?_⟩
    have e:(2:Nat)^min 63 64=9223372036854775808:=by decide
    rw[e]
    generalize lo.toNat=q at *
    generalize x.toNat=r at *
    by_cases N2:q+borrow≤r
    ·have e1:(((r:Int)-(q:Int))%18446744073709551616-borrow)%18446744073709551616=(r:Int)-q-borrow:=by omega
     rw[e1];omega
    ·have e1:(((r:Int)-(q:Int))%18446744073709551616-borrow)%18446744073709551616=(r:Int)-q-borrow+18446744073709551616:=by omega
     rw[e1];omega
   obtain⟨d,d1,y,nb,g1,g2,g3,g4,g5,g6,g7⟩:=hz
   obtain⟨w,hw⟩:=gD y g6
   have Mt:=vc A U0 C t w (by omega)
   have hmul:n*nat (v.take (t+1))=n*nat (v.take t)+4294967296^t*p:=by
    rw[dM v t,Nat.mul_add,←hp,Nat.mul_left_comm]
   have FE:=Nat.div_add_mod (carry+p) 4294967296
   have hA:4294967296^t*carry+4294967296^t*p=4294967296^t*(4294967296*((carry+p)/4294967296))+4294967296^t*lo.toNat:=by
    rw[Fy,←Nat.mul_add,←Nat.mul_add,FE]
   have hB:4294967296^t*y+4294967296^t*lo.toNat+4294967296^t*borrow=4294967296^t*x.toNat+4294967296^t*(4294967296*nb):=by
    rw[←Nat.mul_add,←Nat.mul_add,←Nat.mul_add,g7]
   obtain⟨U',bo,q1,q2,q3⟩:=ih (t+1) ((carry+p)/4294967296) nb (U0.set t w) (by omega) (by omega) (by simpa using hl) g5 (by omega)
    (by rw[hmul,Nat.pow_succ,Nat.mul_assoc];omega)
    (fun q hq=>by rw[List.getElem?_set_ne (by omega)];exact gA q (by omega))
    (by
     rw[fV (by omega),hw,hmul,bR hx,Nat.pow_succ,Nat.mul_assoc,Nat.mul_add 4294967296,Nat.mul_add (4294967296^t)]
     rw[Nat.mul_add (4294967296^t) carry borrow] at hinv
     omega)
   refine⟨U',bo,q1,q2,?_⟩
   refine iR.l10 A.length U.length v n carry borrow t _ (wd v t) p (carry+p) x lo d d1 w nb ((carry+p)/4294967296) rfl (by omega) (word v t) (by rw[hp];omega) (by omega) (gr A U0 C t x NX) Fy.symm g1 g2 (by omega) (by simp;omega) g4 (by rw[e]) (by omega) ?_
   rw[Mt];exact q3
 obtain⟨U',bo,h1,h2,h3⟩:=loop _ 0 0 0 U rfl (by omega) rfl (by omega) (by omega) (by simp) (fun _ _=>rfl) (by simp[nat])
 exact⟨U',bo,h1,h2,iR.e0 (A++(U++C)) A.length U.length v n h3⟩
theorem back(A U C v:Words)(off len:Nat)(ho:off=A.length)(hlen:len=U.length)(hU:U.length≤2199023255553)(yQ:v.length≤U.length) :
  ∃(U':Words) (ca:Nat),U'.length=U.length∧ca≤1∧nat U'+4294967296^U.length*ca=nat U+nat v ∧
   av bp 272 [.row 100000 off len 1,.pv (aa v)] [(100000,j6 A U C)] (.pv (.aE [])) [(100000,j6 A U' C)]:=by
 subst ho;subst hlen
 have loop:∀(j t carry:Nat) (U0:Words),U.length-t=j→t≤U.length→U0.length=U.length→carry≤1→(∀q,t≤q→U0[q]? = U[q]?) →
   nat (U0.take t)+4294967296^t*carry=nat (U.take t)+nat (v.take t) →
   ∃(U':Words) (ca:Nat),U'.length=U.length∧ca≤1∧nat U'+4294967296^U.length*ca=nat U+nat v ∧
    kZ.ah A.length U.length v carry t (A++(U0++C)) [(100000,j6 A U C)] (.pv (.aE [])) [(100000,j6 A U' C)]:=by
  intro j
  induction j with
  |zero =>
   intro t carry U0 hj ht hl N8 _ hinv
   have uY:t=U.length:=by omega
   subst uY
   rw[aR (l:=v) yQ] at hinv
   rw[aR (by omega),aR (l:=U) (by omega)] at hinv
   exact⟨U0,carry,hl,N8,hinv,kZ.cV A.length U.length v carry U.length (A++(U0++C)) (sin:=[(100000,j6 A U C)]) rfl rfl (by omega)⟩
  |succ j ih =>
   intro t carry U0 hj ht hl N8 gA hinv
   obtain⟨x,hx⟩:∃x,U[t]? = some x:=⟨_,List.getElem?_eq_getElem (by omega)⟩
   have NX:U0[t]? = some x:=by rw[gA t (Nat.le_refl t)];exact hx
   have h1:=mq v t
   have h2:=ij x
   have e:(2:Nat)^min 32 64=4294967296:=by decide
   obtain⟨w,hw⟩:=gD ((carry+(x.toNat+wd v t))%4294967296) (by omega)
   have FE:=Nat.div_add_mod (carry+(x.toNat+wd v t)) 4294967296
   have hA:4294967296^t*carry+4294967296^t*x.toNat+4294967296^t*wd v t=4294967296^t*(4294967296*((carry+(x.toNat+wd v t))/4294967296))+4294967296^t*w.toNat:=by
    rw[hw,←Nat.mul_add,←Nat.mul_add,←Nat.mul_add,FE];congr 1;omega
   obtain⟨U',ca,q1,q2,q3,q4⟩:=ih (t+1) ((carry+(x.toNat+wd v t))/4294967296) (U0.set t w) (by omega) (by omega) (by simpa using hl) (by omega)
    (fun q hq=>by rw[List.getElem?_set_ne (by omega)];exact gA q (by omega))
    (by rw[fV (by omega),dM v t,bR hx,Nat.pow_succ,Nat.mul_assoc];omega)
   refine⟨U',ca,q1,q2,q3,?_⟩
   refine kZ.l10 A.length U.length v carry t _ x (wd v t) (x.toNat+wd v t) (carry+(x.toNat+wd v t)) w _ rfl (by omega) (gr A U0 C t x NX) (word v t) (by omega) (by omega) hw.symm (by simp;omega) (by rw[e]) (by omega) ?_
   rw[vc A U0 C t w (by omega)];exact q4
 obtain⟨U',ca,h1,h2,h3,h4⟩:=loop _ 0 0 U rfl (by omega) rfl (by omega) (fun _ _=>rfl) (by simp[nat])
 exact⟨U',ca,h1,h2,h3,kZ.e0 (A++(U++C)) A.length U.length v h4⟩
end bN
end Go.Proofs.YtllmkadmohkbfaaGreatDoor.Sym
namespace Go.Proofs.YtllmkadmohkbfaaGreatDoor.Sym
open Go Path
set_option linter.unusedVariables false
section
variable {V R W top next hi lo head r0 bU rest:Nat}
structure Kn (V R W top next head lo r0:Nat):Prop where
 v1:(top*4294967296+next)*W≤V
 v2:V<(top*4294967296+next+1)*W
 r:R=(head*4294967296+lo)*W+r0
 r0:r0<W
 lo:lo<4294967296
 next:next<4294967296
 top:0<top
 rv:R<V*4294967296
theorem Kn.Wp(h:Kn V R W top next head lo r0):R<(head*4294967296+lo+1)*W:=by
 have h1:=h.r;have h2:=h.r0
 rw[Nat.add_mul _ 1,Nat.one_mul];omega
theorem Kn.Kv(h:Kn V R W top next head lo r0):0<V∧4294967296*W≤V:=by
 have h1:=h.v1
 have h2:=h.r0
 have h3:4294967296*W≤(top*4294967296+next)*W:=Nat.mul_le_mul_right _ (by have:=h.top;omega)
 omega
theorem Kn.start(h:Kn V R W top next head lo r0):R/V≤head/top:=by
 have hv:=h.Kv.1
 rw[←Nat.lt_succ_iff,Nat.div_lt_iff_lt_mul hv]
 have h1:head+1≤(head/top+1)*top:=by
  have:=Nat.lt_div_mul_add (a:=head) h.top
  rw[Nat.add_mul,Nat.one_mul];omega
 have h2:(head/top+1)*((top*4294967296+next)*W)≤(head/top+1)*V:=Nat.mul_le_mul_left _ h.v1
 have h3:(head*4294967296+lo+1)*W≤(head/top+1)*((top*4294967296+next)*W):=by
  rw[←Nat.mul_assoc]
  refine Nat.mul_le_mul_right _ ?_
  rw[Nat.mul_add,←Nat.mul_assoc]
  have:=Nat.mul_le_mul_right 4294967296 h1
  have:=h.lo
  omega
 have:=h.Wp
 show R<(head/top+1)*V
 omega
theorem Kn.small(h:Kn V R W top next head lo r0):R/V<4294967296:=by
 rw[Nat.div_lt_iff_lt_mul h.Kv.1,Nat.mul_comm];exact h.rv
theorem Kn.less(h:Kn V R W top next head lo r0)(hg:bU*top+rest=head)(hc:rest*4294967296+lo<bU*next):R/V<bU:=by
 rw[Nat.div_lt_iff_lt_mul h.Kv.1]
 have h2:bU*((top*4294967296+next)*W)≤bU*V:=Nat.mul_le_mul_left _ h.v1
 have h3:(head*4294967296+lo+1)*W≤bU*((top*4294967296+next)*W):=by
  rw[←Nat.mul_assoc]
  refine Nat.mul_le_mul_right _ ?_
  rw[Nat.mul_add,←Nat.mul_assoc,←hg,Nat.add_mul]
  omega
 have:=h.Wp
 omega
theorem Kn.fits(h:Kn V R W top next head lo r0)(hg:bU*top+rest=head)(hr:4294967296≤rest):bU<4294967296:=by
 refine Nat.lt_of_not_le fun A5 => ?_
 have h1:4294967296*top≤bU*top:=Nat.mul_le_mul_right _ A5
 have h2:(head*4294967296)*W≤R:=by
  rw[h.r,Nat.add_mul];omega
 have h3:(4294967296*top+4294967296)*4294967296*W≤head*4294967296*W:=Nat.mul_le_mul_right _ (Nat.mul_le_mul_right _ (by omega))
 have h4:V*4294967296<(top*4294967296+next+1)*W*4294967296:=Nat.mul_lt_mul_of_pos_right h.v2 (by omega)
 have h5:(top*4294967296+next+1)*W*4294967296≤(4294967296*top+4294967296)*W*4294967296:=Nat.mul_le_mul_right _ (Nat.mul_le_mul_right _ (by have:=h.next;omega))
 have h6:(4294967296*top+4294967296)*W*4294967296=(4294967296*top+4294967296)*4294967296*W:=by rw[Nat.mul_right_comm]
 have:=h.rv
 omega
theorem Kn.M7(h:Kn V R W top next head lo r0)(hg:bU*top+rest=head)(hl:bU<4294967296)(hc:4294967296≤rest∨bU*next≤rest*4294967296+lo):bU≤R/V+1:=by
 have hv:=h.Kv.1
 cases bU with
 |zero=>exact Nat.zero_le _
 |succ g =>
  refine Nat.succ_le_succ ?_
  rw[Nat.le_div_iff_mul_le hv]
  have h0:(g+1)*V≤(g+1)*((top*4294967296+next+1)*W):=Nat.mul_le_mul_left _ (Nat.le_of_lt h.v2)
  have h1:(g+1)*((top*4294967296+next+1)*W)=((g+1)*top*4294967296+(g+1)*next+(g+1))*W:=by
   rw[←Nat.mul_assoc,Nat.mul_add,Nat.mul_add,Nat.mul_one,Nat.mul_assoc (g+1) top]
  have h2:=h.Kv.2
  have h3:(g+1)*V=g*V+V:=by rw[Nat.add_mul,Nat.one_mul]
  have hr:(head*4294967296+lo)*W≤R:=by rw[h.r];omega
  rcases hc with hc|hc
  ·have h4:((g+1)*top*4294967296+(g+1)*next+(g+1))*W≤(head*4294967296+lo)*W:=by
    refine Nat.mul_le_mul_right _ ?_
    have h5:(g+1)*next+(g+1)≤(g+1)*4294967296:=by
     have:=Nat.mul_le_mul_left (g+1) (show next+1≤4294967296 by have:=h.next;omega)
     rw[Nat.mul_add,Nat.mul_one] at this;exact this
    rw[←hg,Nat.add_mul]
    omega
   omega
  ·have h4:((g+1)*top*4294967296+(g+1)*next+(g+1))*W≤(head*4294967296+lo+4294967296)*W:=by
    refine Nat.mul_le_mul_right _ ?_
    rw[←hg,Nat.add_mul];omega
   rw[Nat.add_mul _ 4294967296] at h4
   omega
end
namespace bN
theorem M8(u:Words)(j n:Nat)(h:j+n≤u.length):nat (u.drop j)=nat ((u.drop j).take n)+4294967296^n*nat (u.drop (j+n)):=by
 have:=jl (u.drop j) n (by simp;omega)
 rw[List.drop_drop] at this
 exact this
theorem Kw(U:Words)(n:Nat)(h:U.length=n+3){a b c:UInt32}(ha:U[n]? = some a)(hb:U[n+1]? = some b)(hc:U[n+2]? = some c) :
  nat U=((c.toNat*4294967296+b.toNat)*4294967296+a.toNat)*4294967296^n+nat (U.take n):=by
 have h1:=bR hc
 have h2:=bR hb
 have h3:=bR ha
 rw[aR (by omega)] at h1
 rw[h1,h2,h3]
 have e1:(4294967296:Nat)^(n+1)=4294967296^n*4294967296:=Nat.pow_succ ..
 have e2:(4294967296:Nat)^(n+2)=4294967296^n*4294967296*4294967296:=by rw[Nat.pow_succ,e1]
 rw[e1,e2]
 generalize (4294967296:Nat)^n=P
 grind
theorem Kx(U:Words)(n:Nat)(h:U.length=n+2){a b:UInt32}(ha:U[n]? = some a)(hb:U[n+1]? = some b) :
  nat U=(b.toNat*4294967296+a.toNat)*4294967296^n+nat (U.take n):=by
 have h2:=bR hb
 have h3:=bR ha
 rw[aR (by omega)] at h2
 rw[h2,h3]
 have e1:(4294967296:Nat)^(n+1)=4294967296^n*4294967296:=Nat.pow_succ ..
 rw[e1]
 generalize (4294967296:Nat)^n=P
 grind
structure Dv (a b zb v:Words) (v1 v2:UInt32) (s n m V N:Nat):Prop where
 hv:v=zb.take b.length
 C3:s<32
 J9:a.length≤2199023255551
 hm:a.length+1=m+(n+2)
 yQ:v.length=n+2
 Bf:nat v=V
 xZ:V<4294967296^(n+2)
 M9:0<V
 zZ:v[n+1]? = some v1
 BP:v[n]? = some v2
 Hw:V=(v1.toNat*4294967296+v2.toNat)*4294967296^n+nat (v.take n)
 Ma:nat (v.take n)<4294967296^n
 EE:0<v1.toNat
 res:∀q r:Nat,N=q*V+r→r<V→nat a/nat b=q∧r/2^s=nat a%nat b
structure Pt (u U A C:Words) (n j R Q V:Nat):Prop where
 Jl:U.length=n+3
 Na:A.length=j
 hu:u=A++(U++C)
 x5:R=nat U
 hQ:R/V=Q
 Pq:nat C=0
 hR:R=nat (u.drop j)
 hj:j+(n+3)≤u.length
 vV:u.length≤2199023255552
theorem RR{g Q V R r P x:Nat}(FE:Q*V+r=R)(hx:x<P)(h2:x+g*V=R+P)(S4:Q≤g)(S5:g≤Q+1):g=Q+1∧x+V=r+P:=by
 rcases Nat.lt_or_ge Q g with h5|h5
 ·have h6:g=Q+1:=by omega
  rw[h6,Nat.add_mul,Nat.one_mul] at h2
  exact⟨h6,by omega⟩
 ·have h6:g=Q:=by omega
  rw[h6] at h2
  omega
theorem RS{ca V r P x y:Nat}(h:y+P*ca=x+V)(hy:y<P)(h2:x+V=r+P)(hc:ca≤1):y=r:=by
 have N8:ca=0∨ca=1:=by omega
 rcases N8 with rfl|rfl
 ·omega
 ·omega
theorem Nb {a b zb v u U A C : Words} {v1 v2 : UInt32} {s n m V N j R Q : Nat} (dv : Dv a b zb v v1 v2 s n m V N) (pt : Pt u U A C n j R Q V) :
    ∀ bU : Nat, bU < 4294967296 → Q ≤ bU → bU ≤ Q + 1 → ∃ (U1 : Words) (bo : Bool) (U2 : Words), U1.length = n + 3 ∧
          av bp 271 [.row 100000 (0 + j * 1) (j + (n + 3) - j) 1, .pv (aa (zb.take b.length)), .pv (vU bU)] [(100000, .pure ((u : List UInt32).map ag).flatten)] (.pv (vB bo)) [(100000, .pure (((A ++ (U1 ++ C) : List UInt32)).map ag).flatten)] ∧
          (bo = false → bU = Q ∧ nat U1 = R % V) ∧
          (bo = true → bU = Q + 1 ∧ 0 < bU ∧ U2.length = n + 3 ∧ nat U2 = R % V ∧
            av bp 272 [.row 100000 (0 + j * 1) (j + (n + 3) - j) 1, .pv (aa (zb.take b.length))] [(100000, .pure (((A ++ (U1 ++ C) : List UInt32)).map ag).flatten)] (.pv (.aE [])) [(100000, .pure (((A ++ (U2 ++ C) : List UInt32)).map ag).flatten)]) := by
  obtain ⟨hv, C3, J9, hm, yQ, Bf, xZ, M9, zZ, BP, Hw, Ma, EE, res⟩ := dv
  obtain ⟨Jl, Na, hu, x5, hQ, Pq, hR, hj, vV⟩ := pt
  have Hx : (4294967296 : Nat) ^ (n + 3) = 4294967296 ^ (n + 2) * 4294967296 := Nat.pow_succ ..
  intro bU Wq S4 S5
  have FE := Nat.div_add_mod R V
  rw [hQ] at FE
  have Uw := Nat.mod_lt R M9
  rw [Nat.mul_comm] at FE
  rw [← hv]
  obtain ⟨U1, bo, r1, ⟨Wr, S6⟩, r3⟩ := remove A U C v bU (0 + j * 1) (j + (n + 3) - j) (by omega) (by omega) (by omega) Wq (by
    rw [Bf, Jl, Hx]
    have h5 := Nat.mul_lt_mul_of_pos_left xZ (show 0 < 4294967296 by omega)
    have h6 := Nat.mul_le_mul_right V (Nat.le_of_lt Wq)
    rw [Nat.mul_comm (4294967296 ^ (n + 2))]; omega) (by omega)
  rw [Bf, ← x5] at Wr S6
  rw [Jl] at S6
  have Ux := dU U1
  rw [r1, Jl] at Ux
  obtain ⟨U2, ca, b1, b2, b3, b4⟩ := back A U1 C v (0 + j * 1) (j + (n + 3) - j) (by omega) (by omega) (by omega) (by omega)
  rw [Bf, r1, Jl] at b3
  have Uy := dU U2
  rw [b1, r1, Jl] at Uy
  have XW : V < 4294967296 ^ (n + 3) := by
    have := Nat.pow_le_pow_right (n := 4294967296) (by omega) (show n + 2 ≤ n + 3 by omega)
    exact Nat.lt_of_lt_of_le xZ this
  clear Hx xZ Ma Hw res
  generalize (4294967296 : Nat) ^ (n + 3) = P3 at S6 Ux b3 Uy XW
  refine ⟨U1, bo, U2, by omega, by rw [show j6 A U C = .pure ((u : List UInt32).map ag).flatten from by rw [hu]] at r3; exact r3, fun RP => ?_, fun RP => ?_⟩
  · have r2 := Wr RP
    have : bU = Q := by
      rcases Nat.lt_or_ge (Q) bU with h5 | h5
      · have h6 : bU = Q + 1 := by omega
        rw [h6, Nat.add_mul, Nat.one_mul] at r2
        omega
      · omega
    rw [this] at r2
    exact ⟨this, by omega⟩
  · have r2 := S6 RP
    obtain ⟨g1, g2⟩ := RR FE Ux r2 S4 S5
    exact ⟨g1, by rw [g1]; exact Nat.succ_pos _, b1.trans (r1.trans Jl), RS b3 Uy g2 b2, b4⟩
theorem Ky{a b zb v u q U A C:Words}{v1 v2:UInt32}{s n m V N j R Q:Nat}(dv:Dv a b zb v v1 v2 s n m V N)(pt:Pt u U A C n j R Q V)(SK:j+1≤m)(vV:u.length=a.length+1)(A4:q.length=m)(hA:nat u=nat A+4294967296^j*R)
  (hinv:N=nat (q.drop (j+1))*4294967296^(j+1)*V+nat u)
  (ih:∀(u q:Words),u.length=a.length+1→q.length=m→nat (u.drop j)<V→N=nat (q.drop j)*4294967296^j*V+nat u →
   bq.ah (s:Int) zb b (a.length+1) m v1 v2 ((j:Int)-1) u q (.aE [aa (words (nat a/nat b)),aa (words (nat a%nat b))])) (U2:Words) (w:UInt32) (Nc:U2.length=n+3) (Jh:nat U2=R%V) (hw:w.toNat=Q) :
  bq.ah (s:Int) zb b (a.length+1) m v1 v2 ((j:Int)-1) (A++(U2++C)) (q.set j w) (.aE [aa (words (nat a/nat b)),aa (words (nat a%nat b))]):=by
 have M9:=dv.M9
 obtain⟨Jl,Na,hu,x5,hQ,Pq,hR,hj,_⟩:=pt
 have Fz:(A++(U2++C)).drop j=U2++C:=by rw[←Na];exact List.drop_left
 have Wt:nat (U2++C)=R%V:=by rw[lU,Pq,Jh];simp
 refine ih _ _ ?_ (by simpa using A4) (by rw[Fz,Wt];exact Nat.mod_lt _ M9) ?_
 ·have h5:u.length=(A++(U++C)).length:=by rw[←hu]
  simp only[List.length_append] at h5 ⊢
  omega
 ·have h5:nat (A++(U2++C))=nat A+4294967296^j*(R%V):=by rw[lU,Wt,Na]
  have h7:nat ((q.set j w).drop j)=Q+4294967296*nat (q.drop (j+1)):=by
   rw[pE (v:=w) (by rw[List.getElem?_set_self (by omega)]),List.drop_set_of_lt (by omega),hw]
  rw[h5,h7,hinv,hA]
  have h8:=Nat.div_add_mod R V
  rw[hQ] at h8
  have e1:(4294967296:Nat)^(j+1)=4294967296^j*4294967296:=Nat.pow_succ ..
  rw[e1]
  generalize (4294967296:Nat)^j=P at *
  generalize nat (q.drop (j+1))=X at *
  generalize R%V=r at *
  rw[←h8]
  clear h8 hj hu x5 hR hinv hA h5 h7 e1
  grind
theorem IN{a b zb v u q U A C:Words}{v1 v2 lo:UInt32}{s n m V N j R Q head r0:Nat}(dv:Dv a b zb v v1 v2 s n m V N)(pt:Pt u U A C n j R Q V)(kn:Kn V R (4294967296^n) v1.toNat v2.toNat head lo.toNat r0)(SK:j+1≤m)(vV:u.length=a.length+1)(A4:q.length=m)(Fy:U[n]? = some lo)
  (next:∀(U2:Words) (w:UInt32),U2.length=n+3→nat U2=R%V→w.toNat=Q →
   bq.ah (s:Int) zb b (a.length+1) m v1 v2 ((j:Int)-1) (A++(U2++C)) (q.set j w) (.aE [aa (words (nat a/nat b)),aa (words (nat a%nat b))])) :
  ∀(k bU rest:Nat),4294967296-rest≤k→rest<18446744073709551616-4294967296→bU*v1.toNat+rest=head→Q≤bU→bU<18446744073709551616 →
   bq.bA (s:Int) zb b (a.length+1) m v1 v2 (((j+1:Nat):Int)-1) j (j+(n+3)) bU rest u q (.aE [aa (words (nat a/nat b)),aa (words (nat a%nat b))]):=by
 have fin:=Nb dv pt
 obtain⟨hv,C3,J9,hm,yQ,Bf,xZ,M9,zZ,BP,Hw,Ma,EE,res⟩:=dv
 obtain⟨Jl,Na,hu,x5,hQ,Pq,hR,hj,_⟩:=pt
 have Pp:=ij lo
 have Uz:=ij v1
 have UA:=ij v2
 have vO:(zb.take b.length).length=n+2:=by rw[←hv];exact yQ
 have Kz:(2:Nat)^min 32 64=4294967296:=by decide
 have oc:∀(k:Nat) (w:UInt32),U[k]? = some w→u[(0+j*1)+k]? = some w:=fun k w hk=>by
  rw[hu,Nat.zero_add,Nat.mul_one,←Na];exact gr A U C k w hk
 have KA:=kn.small
 rw[hQ] at KA
 have RT:∀{g r:Nat},g*v1.toNat+r=head→r*4294967296+lo.toNat<g*v2.toNat→Q<g:=fun h1 h2=>by rw[←hQ];exact kn.less h1 h2
 have KB:∀{g r:Nat},g*v1.toNat+r=head→g<4294967296→(4294967296≤r∨g*v2.toNat≤r*4294967296+lo.toNat)→g≤Q+1:=fun h1 h2 h3=>by rw[←hQ];exact kn.M7 h1 h2 h3
 clear xZ Ma Hw res x5 hR
 intro k
 induction k with
 |zero =>
  intro bU rest hk RU hg hq S4
  have hr:4294967296≤rest:=by omega
  have yn:=kn.fits hg hr
  obtain⟨U1,bo,U2,f1,f2,f3,f4⟩:=fin bU yn hq (KB hg yn (.inl hr))
  cases bo with
  |false =>
   obtain⟨g1,g2⟩:=f3 rfl
   obtain⟨w,hw⟩:=gD bU yn
   refine bq.Wl (s:Int) zb b (a.length+1) m v1 v2 _ j (j+(n+3)) bU rest u q _ false w j hr f2 rfl (by omega) (by omega) (by omega) (by omega) (by unfold ax;omega) ?_
   rw[show (((j+1:Nat):Int)-1-1)=(j:Int)-1 from by omega]
   exact next U1 w f1 g2 (by omega)
  |true =>
   obtain⟨g1,g0,g2,g3,g4⟩:=f4 rfl
   obtain⟨w,hw⟩:=gD (bU-1) (by omega)
   refine bq.Wk (s:Int) zb b (a.length+1) m v1 v2 _ j (j+(n+3)) bU rest u q _ true (bU-1) _ w j hr f2 rfl (by omega) g4 (by omega) (by omega) (by omega) (by omega) (by unfold ax;omega) ?_
   rw[show (((j+1:Nat):Int)-1-1)=(j:Int)-1 from by omega]
   exact next U2 w g2 g3 (by omega)
 |succ k ihk =>
  intro bU rest hk RU hg hq S4
  by_cases hr:4294967296≤rest
  ·have yn:=kn.fits hg hr
   obtain⟨U1,bo,U2,f1,f2,f3,f4⟩:=fin bU yn hq (KB hg yn (.inl hr))
   cases bo with
   |false =>
    obtain⟨g1,g2⟩:=f3 rfl
    obtain⟨w,hw⟩:=gD bU yn
    refine bq.Wl (s:Int) zb b (a.length+1) m v1 v2 _ j (j+(n+3)) bU rest u q _ false w j hr f2 rfl (by omega) (by omega) (by omega) (by omega) (by unfold ax;omega) ?_
    rw[show (((j+1:Nat):Int)-1-1)=(j:Int)-1 from by omega]
    exact next U1 w f1 g2 (by omega)
   |true =>
    obtain⟨g1,g0,g2,g3,g4⟩:=f4 rfl
    obtain⟨w,hw⟩:=gD (bU-1) (by omega)
    refine bq.Wk (s:Int) zb b (a.length+1) m v1 v2 _ j (j+(n+3)) bU rest u q _ true (bU-1) _ w j hr f2 rfl (by omega) g4 (by omega) (by omega) (by omega) (by omega) (by unfold ax;omega) ?_
    rw[show (((j+1:Nat):Int)-1-1)=(j:Int)-1 from by omega]
    exact next U2 w g2 g3 (by omega)
  have SO:=KA
  have step:∀(Pr:Q<bU),(bU-1)*v1.toNat+(rest+v1.toNat)=head:=by
   intro Pr
   have:bU=(bU-1)+1:=by omega
   rw[this,Nat.add_mul,Nat.one_mul] at hg
   omega
  by_cases S5:4294967296≤bU
  ·refine bq.yj (s:Int) zb b (a.length+1) m v1 v2 _ j (j+(n+3)) bU rest u q (bU-1) (rest+v1.toNat) (by omega) S5 (by omega) (by omega) ?_
   exact ihk (bU-1) (rest+v1.toNat) (by omega) (by omega) (step (by omega)) (by omega) (by omega)
  ·have JQ:bU*v2.toNat<18446744073709551616:=by have:=vb (show bU<4294967296 by omega) UA;omega
   have ED:rest*2^min 32 64%18446744073709551616%18446744073709551616 ||| lo.toNat%18446744073709551616=rest*4294967296+lo.toNat:=by
    rw[Kz,Nat.mod_mod];exact C1 (by omega) Pp
   by_cases hc:rest*4294967296+lo.toNat<bU*v2.toNat
   ·have Pr:=RT hg hc
    refine bq.Be (s:Int) zb b (a.length+1) m v1 v2 _ j (j+(n+3)) bU rest u q (bU*v2.toNat) _ n lo (rest*4294967296+lo.toNat) (bU-1) (rest+v1.toNat) (by omega) (by omega) (Nat.mod_eq_of_lt JQ) rfl (by rw[vO];unfold ax;omega) (by rw[vO];omega) (by omega) (oc n lo Fy) ED hc (by omega) (by omega) ?_
    exact ihk (bU-1) (rest+v1.toNat) (by omega) (by omega) (step Pr) (by omega) (by omega)
   ·obtain⟨U1,bo,U2,f1,f2,f3,f4⟩:=fin bU (by omega) hq (KB hg (by omega) (.inr (by omega)))
    cases bo with
    |false =>
     obtain⟨g1,g2⟩:=f3 rfl
     obtain⟨w,hw⟩:=gD bU (by omega)
     refine bq.XV (s:Int) zb b (a.length+1) m v1 v2 _ j (j+(n+3)) bU rest u q (bU*v2.toNat) _ n lo (rest*4294967296+lo.toNat) _ false w j (by omega) (by omega) (Nat.mod_eq_of_lt JQ) rfl (by rw[vO];unfold ax;omega) (by rw[vO];omega) (by omega) (oc n lo Fy) ED (by omega) f2 rfl (by omega) (by omega) (by omega) (by omega) (by unfold ax;omega) ?_
     rw[show (((j+1:Nat):Int)-1-1)=(j:Int)-1 from by omega]
     exact next U1 w f1 g2 (by omega)
    |true =>
     obtain⟨g1,g0,g2,g3,g4⟩:=f4 rfl
     obtain⟨w,hw⟩:=gD (bU-1) (by omega)
     refine bq.Kt (s:Int) zb b (a.length+1) m v1 v2 _ j (j+(n+3)) bU rest u q (bU*v2.toNat) _ n lo (rest*4294967296+lo.toNat) _ true (bU-1) _ w j (by omega) (by omega) (Nat.mod_eq_of_lt JQ) rfl (by rw[vO];unfold ax;omega) (by rw[vO];omega) (by omega) (oc n lo Fy) ED (by omega) f2 rfl (by omega) g4 (by omega) (by omega) (by omega) (by omega) (by unfold ax;omega) ?_
     rw[show (((j+1:Nat):Int)-1-1)=(j:Int)-1 from by omega]
     exact next U2 w g2 g3 (by omega)
set_option maxHeartbeats 1000000 in
theorem KC{a b zb v u q:Words}{v1 v2:UInt32}{s n m V N j:Nat}(dv:Dv a b zb v v1 v2 s n m V N)(hj:j+1≤m)(vV:u.length=a.length+1)(A4:q.length=m)(Bg:nat (u.drop (j+1))<V)(hinv:N=nat (q.drop (j+1))*4294967296^(j+1)*V+nat u)
  (ih:∀(u q:Words),u.length=a.length+1→q.length=m→nat (u.drop j)<V→N=nat (q.drop j)*4294967296^j*V+nat u →
   bq.ah (s:Int) zb b (a.length+1) m v1 v2 ((j:Int)-1) u q (.aE [aa (words (nat a/nat b)),aa (words (nat a%nat b))])) :
  bq.ah (s:Int) zb b (a.length+1) m v1 v2 (((j+1:Nat):Int)-1) u q (.aE [aa (words (nat a/nat b)),aa (words (nat a%nat b))]):=by
 have C3:=dv.C3
 have J9:=dv.J9
 have hm:=dv.hm
 have yQ:=dv.yQ
 have xZ:=dv.xZ
 have Hw:=dv.Hw
 have Ma:=dv.Ma
 have EE:=dv.EE
 have hv:=dv.hv
 obtain⟨U,hU⟩:∃U,U=(u.drop j).take (n+3):=⟨_,rfl⟩
 obtain⟨A,hA⟩:∃A,A=u.take j:=⟨_,rfl⟩
 obtain⟨C,hC⟩:∃C,C=u.drop (j+(n+3)):=⟨_,rfl⟩
 have Jl:U.length=n+3:=by rw[hU];simp;omega
 have Na:A.length=j:=by rw[hA];simp;omega
 have hu:u=A++(U++C):=by
  rw[hA,hU,hC,show j+(n+3)=j+(n+3) from rfl,←List.drop_drop,List.take_append_drop,List.take_append_drop]
 obtain⟨R,hR⟩:∃R,R=nat (u.drop j):=⟨_,rfl⟩
 obtain⟨x,hx⟩:∃x,u[j]? = some x:=⟨_,List.getElem?_eq_getElem (by omega)⟩
 have RV:R<V*4294967296:=by
  rw[hR,pE hx]
  have h2:=ij x
  omega
 have x5:=M8 u j (n+3) (by omega)
 rw[←hU,←hC,←hR] at x5
 have Hx:(4294967296:Nat)^(n+3)=4294967296^(n+2)*4294967296:=Nat.pow_succ ..
 have Pq:nat C=0:=by
  refine Nat.eq_zero_of_not_pos fun hp => ?_
  have h2:=Nat.mul_le_mul_left (4294967296^(n+3)) hp
  omega
 rw[Pq,Nat.mul_zero,Nat.add_zero] at x5
 obtain⟨hi,RW⟩:∃x,U[n+2]? = some x:=⟨_,List.getElem?_eq_getElem (by omega)⟩
 obtain⟨mi,Wu⟩:∃x,U[n+1]? = some x:=⟨_,List.getElem?_eq_getElem (by omega)⟩
 obtain⟨lo,Fy⟩:∃x,U[n]? = some x:=⟨_,List.getElem?_eq_getElem (by omega)⟩
 have h3:=Kw U n Jl Fy Wu RW
 have UB:=dU (U.take n)
 rw[List.length_take,Nat.min_eq_left (by omega)] at UB
 obtain⟨head,N9⟩:∃h,h=hi.toNat*4294967296+mi.toNat:=⟨_,rfl⟩
 rw[←N9,←x5] at h3
 have kn:Kn V R (4294967296^n) v1.toNat v2.toNat head lo.toNat (nat (U.take n)) :=
  ⟨by rw[Hw];omega,by rw[Hw,Nat.add_mul _ 1,Nat.one_mul];omega,h3,UB,ij lo,ij v2,EE,RV⟩
 obtain⟨Q,hQ⟩:∃Q,R/V=Q:=⟨_,rfl⟩
 have KD:=kn.start
 rw[hQ] at KD
 have pt:Pt u U A C n j R Q V:=⟨Jl,Na,hu,x5,hQ,Pq,hR,by omega,by omega⟩
 have Wv:nat u=nat A+4294967296^j*R:=by
  have:=jl u j (by omega)
  rw[←hA,←hR] at this;exact this
 have UC:=ij hi
 have UD:=ij mi
 have Pp:=ij lo
 have Uz:=ij v1
 have vO:(zb.take b.length).length=n+2:=by rw[←hv];exact yQ
 have Kz:(2:Nat)^min 32 64=4294967296:=by decide
 have oc:∀(k:Nat) (w:UInt32),U[k]? = some w→u[(0+j*1)+k]? = some w:=fun k w hk=>by
  rw[hu,Nat.zero_add,Nat.mul_one,←Na];exact gr A U C k w hk
 have inner:=IN dv pt kn hj vV A4 Fy (Ky dv pt hj vV A4 Wv hinv ih)
 clear xZ Ma Hw x5 Hx h3 UB RV Bg hinv Wv ih
 have YT:head<18446744073709551616:=by omega
 have UE:head/v1.toNat≤head:=Nat.div_le_self _ _
 have Uw:=Nat.mod_lt head EE
 have hz:(hi.toNat*2^min 32 64)%18446744073709551616%18446744073709551616 ||| mi.toNat%18446744073709551616=head:=by
  rw[Kz,Nat.mod_mod,N9];exact C1 UC UD
 refine bq.l10 (s:Int) zb b (a.length+1) m v1 v2 _ u q j (j+(n+3)) hi _ (n+1) mi head (head/v1.toNat) (head%v1.toNat) (by omega) (by rw[vO];unfold ax;omega) (by rw[vO];unfold ax;omega) (by omega) (by rw[vO];omega) (by omega) (by omega) (by omega) (by rw[vO];omega)
  (by rw[vO];exact oc (n+2) hi RW) rfl (by rw[vO];unfold ax;omega) (by rw[vO];omega) (by omega) (oc (n+1) mi Wu) hz (by omega) (by rw[Nat.mod_eq_of_lt (by omega)]) rfl ?_
 refine inner 4294967296 _ _ (by omega) (by omega) ?_ KD (by omega)
 have:=Nat.div_add_mod head v1.toNat
 rw[Nat.mul_comm] at this;exact this
set_option maxHeartbeats 1000000 in
theorem jH(a b:Words)(ha:cn a=true)(hb:cn b=true)(df:b≠[])(J9:a.length≤2199023255551)(Pd:b.length≤2199023255552) :
  Cp 219 [aa a,aa b] (.aE [aa (words (nat a/nat b)),aa (words (nat a%nat b))]):=by
 have Oa:0<nat b:=o7 hb df
 have z6:=compare a b ha hb (by omega)
 by_cases bh:nat a<nat b
 ·rw[ow (by omega)] at z6
  rw[Nat.div_eq_of_lt bh,Nat.mod_eq_of_lt bh]
  exact bq.e0 a b (-1) _ z6 (by omega) (trim a (by omega))
 have Ps:0≤dC (nat a) (nat b):=by unfold dC;split<;>(try split)<;>omega
 by_cases h1:b.length=1
 ·obtain⟨v,rfl⟩:∃v,b=[v]:=List.length_eq_one_iff.1 h1
  have hn:nat [v]=v.toNat:=by simp[nat]
  rw[hn] at Oa Ps z6 ⊢
  have hs:=short a v (by omega) (by omega)
  have ht:=trim [UInt32.ofNat (nat a%v.toNat)] (by simp)
  have Jh:nat [UInt32.ofNat (nat a%v.toNat)]=nat a%v.toNat:=by
   have:=Nat.mod_lt (nat a) Oa
   have:=ij v
   simp only[nat,sA];omega
  rw[Jh] at ht
  exact bq.e1 a [v] _ v _ _ _ z6 Ps rfl rfl hs ht
 obtain⟨n,hn⟩:∃n,b.length=n+2:=⟨b.length-2,by have:=List.length_pos_iff.2 df;omega⟩
 obtain⟨bt,UF⟩:∃v,b[n+1]? = some v:=⟨_,List.getElem?_eq_getElem (by omega)⟩
 have UG:bt.toNat≠0:=(l6 (by rw[hn];exact UF)).1 hb
 have XX:=qw (n:=bt.toNat) (k:=32) (ij bt)
 obtain⟨kb,YU,XY,XZ⟩:=sF UG
 obtain⟨s,hs⟩:∃s,s=32-blen bt.toNat:=⟨_,rfl⟩
 have C3:s<32:=by omega
 obtain⟨zb,X0,UH,UI,_⟩:=up b s Pd C3
 obtain⟨za,UJ,RX,_,UK⟩:=up a s (by omega) C3
 have hP:=Nat.two_pow_pos s
 have RY:nat b<4294967296^(n+1)*2^(kb+1):=by
  have h2:=bR UF
  rw[aR (by omega)] at h2
  have h3:=dU (b.take (n+1))
  rw[List.length_take,Nat.min_eq_left (by omega)] at h3
  have h4:=Nat.mul_le_mul_left (4294967296^(n+1)) (show bt.toNat+1≤2^(kb+1) by omega)
  rw[Nat.mul_add] at h4;omega
 have xZ:nat b*2^s<4294967296^(n+2):=by
  have h2:=Nat.mul_lt_mul_of_pos_right RY hP
  have h3:2^(kb+1)*2^s=4294967296:=by rw[←Nat.pow_add,show kb+1+s=32 from by omega]
  rw[Nat.mul_assoc,h3,←Nat.pow_succ] at h2
  exact h2
 obtain⟨v,hv⟩:∃v,v=zb.take b.length:=⟨_,rfl⟩
 have yQ:v.length=n+2:=by rw[hv];simp;omega
 have Bf:nat v=nat b*2^s:=by
  rw[←UH,hv]
  have h2:=jl zb b.length (by omega)
  have h3:nat (zb.drop b.length)=0:=by
   refine Nat.eq_zero_of_not_pos fun hp => ?_
   have:=Nat.mul_le_mul_left (4294967296^b.length) hp
   rw[hn] at this h2
   omega
  rw[h3] at h2;omega
 obtain⟨V,hV⟩:∃V,V=nat b*2^s:=⟨_,rfl⟩
 rw[←hV] at Bf xZ
 have UL:4294967296^(n+1)≤nat b:=by
  have:=EB hb df
  rwa[hn] at this
 have UM:4294967296^(n+1)≤V:=by
  have:=Nat.mul_le_mul_left (nat b) hP
  omega
 have M9:0<V:=Nat.lt_of_lt_of_le (Nat.pow_pos (by omega)) UM
 obtain⟨v1,zZ⟩:∃x,v[n+1]? = some x:=⟨_,List.getElem?_eq_getElem (by omega)⟩
 obtain⟨v2,BP⟩:∃x,v[n]? = some x:=⟨_,List.getElem?_eq_getElem (by omega)⟩
 have Hw:=Kx v n yQ BP zZ
 rw[Bf] at Hw
 have Ma:=dU (v.take n)
 rw[List.length_take,Nat.min_eq_left (by omega)] at Ma
 have EE:0<v1.toNat:=by
  refine Nat.pos_of_ne_zero fun h0 => ?_
  rw[h0] at Hw
  have h2:=ij v2
  have h3:(v2.toNat+1)*4294967296^n≤4294967296*4294967296^n:=Nat.mul_le_mul_right _ h2
  have h4:(4294967296:Nat)^(n+1)=4294967296*4294967296^n:=by rw[Nat.pow_succ,Nat.mul_comm]
  rw[Nat.add_mul] at h3
  simp at Hw
  omega
 have NS:b.length≤a.length:=by
  refine Nat.le_of_not_lt fun h => ?_
  have h2:=dU a
  have h3:=kV (show a.length≤n+1 by omega)
  omega
 obtain⟨m,hm⟩:∃m,a.length+1=m+(n+2):=⟨a.length+1-(n+2),by omega⟩
 obtain⟨N,hN⟩:∃N,N=nat a*2^s:=⟨_,rfl⟩
 rw[←hN] at RX
 have res:∀q r:Nat,N=q*V+r→r<V→nat a/nat b=q∧r/2^s=nat a%nat b:=by
  intro q r h2 h3
  have h4:N/V=nat a/nat b:=by rw[hN,hV];exact Nat.mul_div_mul_right _ _ hP
  have h5:N%V=nat a%nat b*2^s:=by rw[hN,hV];exact Nat.mul_mod_mul_right _ _ _
  have h6:N/V=q:=by rw[h2,Nat.mul_comm,Nat.mul_add_div M9,Nat.div_eq_of_lt h3,Nat.add_zero]
  have h7:N%V=r:=by rw[h2,Nat.mul_comm,Nat.mul_add_mod,Nat.mod_eq_of_lt h3]
  refine⟨by rw[←h4,h6],?_⟩
  rw[←h7,h5,Nat.mul_div_cancel _ hP]
 have dv:Dv a b zb v v1 v2 s n m V N:=⟨hv,C3,J9,hm,yQ,Bf,xZ,M9,zZ,BP,Hw,Ma,EE,res⟩
 have loop:∀(jj:Nat) (u q:Words),jj≤m→u.length=a.length+1→q.length=m→nat (u.drop jj)<V→N=nat (q.drop jj)*4294967296^jj*V+nat u →
   bq.ah (s:Int) zb b (a.length+1) m v1 v2 ((jj:Int)-1) u q (.aE [aa (words (nat a/nat b)),aa (words (nat a%nat b))]):=by
  intro jj
  induction jj with
  |zero =>
   intro u q _ vV A4 Bg hinv
   simp only[List.drop_zero,Nat.pow_zero,Nat.mul_one] at hinv Bg
   obtain⟨e1,e2⟩:=res _ _ hinv Bg
   rw[e1,←e2]
   exact bq.cV (s:Int) zb b (a.length+1) m v1 v2 _ u q _ _ (by omega) A4.symm vV.symm (trim q (by omega)) (down u s (by omega) C3)
  |succ j ih =>
   intro u q hj vV A4 Bg hinv
   exact KC dv hj vV A4 Bg hinv (fun u q=>ih u q (by omega))
 have vO:(zb.take b.length).length=n+2:=by rw[←hv];exact yQ
 refine bq.e2 a b _ (n+1) bt (s:Int) zb za (a.length+1) m (n+1) v1 n v2 z6 Ps h1 (by unfold ax;omega) (by omega) UF (by rw[hs];exact N7.zY bt) UI (by omega) UK (by rw[vO];unfold ax;omega) (by rw[vO];omega) (by omega) (by rw[vO];unfold ax;omega) (by rw[vO];omega) (by rw[←hv];exact zZ) (by rw[vO];unfold ax;omega) (by rw[vO];omega) (by rw[←hv];exact BP) (by unfold ax;omega) ?_
 refine loop m za _ (Nat.le_refl _) UJ (by simp) ?_ ?_
 ·
  have h2:=jl za m (by omega)
  refine Nat.lt_of_not_le fun h => ?_
  have h3:=Nat.mul_le_mul_left (4294967296^m) h
  have h4:4294967296^m*V≤N:=by omega
  have h5:nat a*2^s<4294967296^a.length*2^s:=Nat.mul_lt_mul_of_pos_right (dU a) hP
  have h6:4294967296^m*V=4294967296^m*nat b*2^s:=by rw[hV,Nat.mul_assoc]
  have h7:4294967296^a.length≤4294967296^m*nat b:=by
   have:=Nat.mul_le_mul_left (4294967296^m) UL
   rw[←Nat.pow_add,show m+(n+1)=a.length from by omega] at this
   exact this
  have h8:=Nat.mul_le_mul_right (2^s) h7
  omega
 ·rw[List.drop_of_length_le (by simp),RX];simp[nat]
end bN
end Go.Proofs.YtllmkadmohkbfaaGreatDoor.Sym
namespace Go.Proofs.YtllmkadmohkbfaaGreatDoor.Sym
open Go Path
set_option linter.unusedVariables false
abbrev wl(i:Int):Nat:=(words i.natAbs).length
theorem eP(i:Int):(whole i).ct.length=wl i:=rfl
theorem gF(i:Int):wl (-i)=wl i:=by unfold wl;rw[Int.natAbs_neg]
theorem pF{i:Int}{k:Nat}(h:i.natAbs<4294967296^k):wl i≤k:=eu h
theorem EF(i:Int):i.natAbs<4294967296^wl i:=jm _
theorem z7(i j:Int):wl (i+j)≤max (wl i) (wl j)+1:=by
 refine pF ?_
 have h1:=EF i
 have h2:=EF j
 have h3:=kV (Nat.le_max_left (wl i) (wl j))
 have h4:=kV (Nat.le_max_right (wl i) (wl j))
 have h5:=Int.natAbs_add_le i j
 rw[Nat.pow_succ]
 omega
theorem dH(i j:Int):wl (i*j)≤wl i+wl j:=by
 refine pF ?_
 rw[Int.natAbs_mul,Nat.pow_add]
 exact Nat.mul_lt_mul'' (EF i) (EF j)
theorem a8(a:au):wl a.val≤a.ct.length:=by
 unfold wl
 rw[bN.C0]
 cases a.valid<;>simp
namespace bN
def nZ(i:Int):Int:=dC i 0
theorem Hy{i:Int}(h:i<0):nZ i = -1:=ow h
theorem Hz{i:Int}(h:0<i):nZ i=1:=mW h
theorem EG:nZ 0=0:=rfl
theorem Sign(a:au)(h:Fit a.ct):Cp 93 [a.pv] (vI (nZ a.val)):=by
 have hm:=ct a h
 by_cases h0:a.val=0
 ·rw[h0,EG]
  exact mV.e0 a _ hm (by rw[h0];rfl)
 ·have hl:(words a.val.natAbs).length≠0:=by rw[Ne,dk];omega
  have hv:a.valid=true:=by
   cases hv:a.valid with
   |true=>rfl
   |false=>exact absurd (by unfold au.val;rw[hv];rfl) h0
  by_cases hn:a.val<0
  ·rw[Hy hn]
   have:=yk a
   rw[hv,decide_eq_true hn] at this
   exact mV.e1 a _ hm hl (by simpa using this.symm)
  ·rw[Hz (by omega)]
   have:=yk a
   rw[hv,decide_eq_false hn] at this
   exact mV.e2 a _ hm hl (by simpa using this.symm)
theorem rb(a b:au)(ha:Fit a.ct)(hb:Fit b.ct):Cp 94 [a.pv,b.pv] (vI (dC a.val b.val)):=by
 have h1:=Sign a ha
 have h2:=Sign b hb
 have h3:=ct a ha
 have h4:=ct b hb
 have h5:=neg a ha
 have la:=a8 a
 by_cases he:nZ a.val=nZ b.val
 ·have hc:=compare (words a.val.natAbs) (words b.val.natAbs) (gE _) (gE _) (by have:(words a.val.natAbs).length≤a.ct.length:=la;omega)
  rw[aD,aD] at hc
  unfold nZ dC at he
  by_cases hn:a.val<0
  ·have NO:b.val<0:=by
    rw[if_pos hn] at he
    split at he
    ·assumption
    ·split at he<;>omega
   have e:dC a.val b.val = -(dC (a.val.natAbs:Int) (b.val.natAbs:Int)):=by
    unfold dC
    split<;>split<;>(try split)<;>(try split)<;>omega
   rw[e]
   refine mn.e2 a b _ _ _ _ _ _ h1 h2 (by unfold nZ dC;exact he) h3 h4 hc h5 (decide_eq_true hn) ?_
   unfold ax dC;split<;>(try split)<;>omega
  ·have NO:¬b.val<0:=by
    intro eN
    rw[if_neg hn,if_pos eN] at he
    split at he<;>omega
   have e:dC a.val b.val=dC (a.val.natAbs:Int) (b.val.natAbs:Int):=by
    unfold dC
    split<;>split<;>(try split)<;>(try split)<;>omega
   rw[e]
   exact mn.e3 a b _ _ _ _ _ _ h1 h2 (by unfold nZ dC;exact he) h3 h4 hc h5 (decide_eq_false hn)
 ·by_cases bh:nZ a.val<nZ b.val
  ·rw[ow (by
    unfold nZ dC at bh
    split at bh<;>split at bh<;>(try split at bh)<;>(try split at bh)<;>omega)]
   exact mn.e0 a b _ _ h1 h2 he bh
  ·rw[mW (by
    unfold nZ dC at bh he
    split at bh<;>split at bh<;>(try split at bh)<;>(try split at bh)<;>(simp_all;try omega))]
   exact mn.e1 a b _ _ h1 h2 he (by omega)
theorem Neg(a:au)(h:Fit a.ct):Cp 169 [a.pv] (Sym.whole (-a.val)).pv:=by
 have h3:=ct a h
 have h5:=neg a h
 have la:=a8 a
 have hw:=whole (!decide (a.val<0)) (words a.val.natAbs) (by have:(words a.val.natAbs).length≤a.ct.length:=la;omega)
 have e:(bif !decide (a.val<0) then -(nat (words a.val.natAbs):Int) else (nat (words a.val.natAbs):Int)) = -a.val:=by
  rw[aD]
  by_cases h:a.val<0
  ·simp[h];omega
  ·simp[h];omega
 rw[e] at hw
 exact xz.e0 a _ _ _ h5 h3 hw
theorem Add(a b:au)(ha:Fit a.ct)(hb:Fit b.ct):Cp 66 [a.pv,b.pv] (Sym.whole (a.val+b.val)).pv:=by
 have h1:=ct a ha
 have h2:=ct b hb
 have h3:=neg a ha
 have h4:=neg b hb
 have la:(words a.val.natAbs).length≤a.ct.length:=a8 a
 have lb:(words b.val.natAbs).length≤b.ct.length:=a8 b
 by_cases hs:decide (a.val<0)=decide (b.val<0)
 ·have hp:=plus (words a.val.natAbs) (words b.val.natAbs) (by omega) (by omega)
  rw[aD,aD] at hp
  have hl:=eu (n:=a.val.natAbs+b.val.natAbs) (k:=max (words a.val.natAbs).length (words b.val.natAbs).length+1) (by
   have g1:=jm a.val.natAbs
   have g2:=jm b.val.natAbs
   have g3:=kV (Nat.le_max_left (words a.val.natAbs).length (words b.val.natAbs).length)
   have g4:=kV (Nat.le_max_right (words a.val.natAbs).length (words b.val.natAbs).length)
   rw[Nat.pow_succ];omega)
  have hw:=whole (decide (a.val<0)) (words (a.val.natAbs+b.val.natAbs)) (by omega)
  rw[aD] at hw
  have e:(bif decide (a.val<0) then -((a.val.natAbs+b.val.natAbs:Nat):Int) else ((a.val.natAbs+b.val.natAbs:Nat):Int))=a.val+b.val:=by
   by_cases h:a.val<0
   ·have:b.val<0:=by simpa[h] using hs.symm
    simp[h];omega
   ·have:¬b.val<0:=by simpa[h] using hs.symm
    simp[h];omega
  rw[e] at hw
  exact ou.e0 a b _ _ _ _ _ _ _ h1 h2 h3 h4 hs h3 hp hw
 ·have hc:=compare (words a.val.natAbs) (words b.val.natAbs) (gE _) (gE _) (by omega)
  rw[aD,aD] at hc
  by_cases A5:b.val.natAbs≤a.val.natAbs
  ·have hl:=less (words a.val.natAbs) (words b.val.natAbs) (by omega) (by rw[aD,aD];exact A5)
   rw[aD,aD] at hl
   have hlen:=dL (show a.val.natAbs-b.val.natAbs≤a.val.natAbs by omega)
   have hw:=whole (decide (a.val<0)) (words (a.val.natAbs-b.val.natAbs)) (by omega)
   rw[aD] at hw
   have e:(bif decide (a.val<0) then -((a.val.natAbs-b.val.natAbs:Nat):Int) else ((a.val.natAbs-b.val.natAbs:Nat):Int))=a.val+b.val:=by
    by_cases h:a.val<0
    ·have:¬b.val<0:=by simpa[h] using hs
     simp[h];omega
    ·have:b.val<0:=by simpa[h] using hs
     simp[h];omega
   rw[e] at hw
   exact ou.e1 a b _ _ _ _ _ _ _ _ h1 h2 h3 h4 hs hc (by unfold dC;split<;>(try split)<;>omega) h3 hl hw
  ·have hl:=less (words b.val.natAbs) (words a.val.natAbs) (by omega) (by rw[aD,aD];omega)
   rw[aD,aD] at hl
   have hlen:=dL (show b.val.natAbs-a.val.natAbs≤b.val.natAbs by omega)
   have hw:=whole (decide (b.val<0)) (words (b.val.natAbs-a.val.natAbs)) (by omega)
   rw[aD] at hw
   have e:(bif decide (b.val<0) then -((b.val.natAbs-a.val.natAbs:Nat):Int) else ((b.val.natAbs-a.val.natAbs:Nat):Int))=a.val+b.val:=by
    by_cases h:b.val<0
    ·have:¬a.val<0:=by intro h';simp[h,h'] at hs
     simp[h];omega
    ·have:a.val<0:=by
      refine Classical.byContradiction fun h' => ?_
      simp[h,h'] at hs
     simp[h];omega
   rw[e] at hw
   exact ou.e2 a b _ _ _ _ _ _ _ _ h1 h2 h3 h4 hs hc (by unfold dC;split<;>(try split)<;>omega) h4 hl hw
theorem Sub(a b:au)(ha:Fit a.ct)(hb:Fit b.ct):Cp 131 [a.pv,b.pv] (Sym.whole (a.val-b.val)).pv:=by
 have h1:=Neg b hb
 have h2:=Add a (Sym.whole (-b.val)) ha (by
  have:=a8 b
  show(words (-b.val).natAbs).length≤_
  rw[Int.natAbs_neg]
  have:(words b.val.natAbs).length≤b.ct.length:=this
  omega)
 rw[aA,←Int.sub_eq_add_neg] at h2
 exact xy.e0 a b _ _ h1 h2
theorem Mul(a b:au)(ha:Fit a.ct)(hb:Fit b.ct):Cp 95 [a.pv,b.pv] (Sym.whole (a.val*b.val)).pv:=by
 have h1:=ct a ha
 have h2:=ct b hb
 have h3:=neg a ha
 have h4:=neg b hb
 have la:(words a.val.natAbs).length≤a.ct.length:=a8 a
 have lb:(words b.val.natAbs).length≤b.ct.length:=a8 b
 have ht:=times (words a.val.natAbs) (words b.val.natAbs) (by omega) (by omega)
 rw[aD,aD] at ht
 have hl:(words (a.val.natAbs*b.val.natAbs)).length≤(words a.val.natAbs).length+(words b.val.natAbs).length:=by
  have:=dH a.val b.val
  unfold wl at this
  rw[Int.natAbs_mul] at this;exact this
 have hw:=whole (!(decide (a.val<0)==decide (b.val<0))) (words (a.val.natAbs*b.val.natAbs)) (by omega)
 rw[aD] at hw
 have e:(bif !(decide (a.val<0)==decide (b.val<0)) then -((a.val.natAbs*b.val.natAbs:Nat):Int) else ((a.val.natAbs*b.val.natAbs:Nat):Int))=a.val*b.val:=by
  by_cases h:a.val<0<;>by_cases h':b.val<0<;>simp only[h,h',decide_true,decide_false,beq_self_eq_true,Bool.not_true,cond_false,Bool.not_false,cond_true,show(true==false)=false from rfl,show(false==true)=false from rfl]
  ·rw[←Int.natAbs_mul,Int.natAbs_of_nonneg (Int.mul_nonneg_of_nonpos_of_nonpos (by omega) (by omega))]
  ·rw[←Int.natAbs_mul,Int.ofNat_natAbs_of_nonpos (Int.mul_nonpos_of_nonpos_of_nonneg (by omega) (by omega))];omega
  ·rw[←Int.natAbs_mul,Int.ofNat_natAbs_of_nonpos (Int.mul_nonpos_of_nonneg_of_nonpos (by omega) (by omega))];omega
  ·rw[←Int.natAbs_mul,Int.natAbs_of_nonneg (Int.mul_nonneg (by omega) (by omega))]
 rw[e] at hw
 exact xx.e0 a b _ _ _ _ _ _ h3 h4 h1 h2 ht hw
theorem Of(n:Int)(h:ax n):Cp 67 [vI n] (Sym.whole n).pv:=by
 obtain⟨g1,g2⟩:=h
 have Kz:(2:Nat)^min 32 64=4294967296:=by decide
 have key:∀m:Nat,m=n.natAbs→∃w w1:UInt32,m%4294967296=w.toNat∧m/4294967296%4294967296=w1.toNat∧Cp 136 [(vB (decide (n<0))),(aa [w,w1])] (Sym.whole n).pv:=by
  intro m hm
  obtain⟨w,hw⟩:=gD (m%4294967296) (by omega)
  obtain⟨w1,Jg⟩:=gD (m/4294967296%4294967296) (by omega)
  refine⟨w,w1,hw.symm,Jg.symm,?_⟩
  have:=whole (decide (n<0)) [w,w1] (by simp)
  have e:nat [w,w1]=m:=by simp only[nat,hw,Jg];omega
  rw[e,hm] at this
  have e2:(bif decide (n<0) then -(n.natAbs:Int) else (n.natAbs:Int))=n:=by
   by_cases h:n<0
   ·simp[h];omega
   ·simp[h];omega
  rw[e2] at this;exact this
 by_cases hn:n<0
 ·obtain⟨w,w1,q1,q2,q3⟩:=key n.natAbs rfl
  exact uc.e0 n (n%18446744073709551616).toNat n.natAbs w _ w1 _ (by omega) hn (by omega) q1 (by rw[Kz]) q2 q3
 ·obtain⟨w,w1,q1,q2,q3⟩:=key n.natAbs rfl
  exact uc.e1 n n.natAbs w _ w1 _ (by omega) (by omega) q1 (by rw[Kz]) q2 q3
theorem Div(a b:au)(ha:Fit a.ct)(hb:Fit b.ct)(h0:b.val≠0) :
  Cp 132 [a.pv,b.pv] (.aE [(Sym.whole (a.val/b.val)).pv,(Sym.whole (a.val%b.val)).pv,.az]):=by
 have h1:=ct a ha
 have h2:=ct b hb
 have h3:=neg a ha
 have h4:=neg b hb
 have la:(words a.val.natAbs).length≤a.ct.length:=a8 a
 have lb:(words b.val.natAbs).length≤b.ct.length:=a8 b
 have Hv:(words b.val.natAbs).length≠0:=by rw[Ne,dk];omega
 have Oa:0<b.val.natAbs:=by omega
 have hd:=jH (words a.val.natAbs) (words b.val.natAbs) (gE _) (gE _) (by intro e;rw[e] at Hv;simp at Hv) (by omega) (by omega)
 rw[aD,aD] at hd
 have hq:=dL (Nat.div_le_self a.val.natAbs b.val.natAbs)
 have hr:=dL (Nat.le_of_lt (Nat.mod_lt a.val.natAbs Oa))
 have FE:=Nat.div_add_mod a.val.natAbs b.val.natAbs
 have Uw:=Nat.mod_lt a.val.natAbs Oa
 generalize hQ:a.val.natAbs/b.val.natAbs=q at *
 generalize hR:a.val.natAbs%b.val.natAbs=r at *
 have sb:b.val=if b.val<0 then -(b.val.natAbs:Int) else (b.val.natAbs:Int):=by split<;>omega
 have uniq:∀x y:Int,a.val=b.val*x+y→0≤y→y<b.val.natAbs→a.val/b.val=x∧a.val%b.val=y:=by
  intro x y e1 e2 e3
  rcases Int.lt_or_gt_of_ne h0 with eN|eN
  ·exact(Int.ediv_emod_unique' eN).2 ⟨by omega,e2,by omega⟩
  ·exact(Int.ediv_emod_unique eN).2 ⟨by omega,e2,by omega⟩
 by_cases hn:a.val<0
 ·by_cases Bv:r=0
  ·have hw:=whole (!(decide (a.val<0)==decide (b.val<0))) (words q) (by omega)
   have zx:=whole false (words r) (by omega)
   rw[aD] at hw zx
   subst Bv
   have e:a.val/b.val=(bif !(decide (a.val<0)==decide (b.val<0)) then -(q:Int) else (q:Int))∧a.val%b.val=0:=by
    refine uniq _ 0 ?_ (by omega) (by omega)
    have su:(a.val.natAbs:Int)=(b.val.natAbs:Int)*q:=by rw[←FE];simp
    by_cases h':b.val<0
    ·simp only[hn,h',decide_true,beq_self_eq_true,Bool.not_true,cond_false]
     have:(b.val.natAbs:Int) = -b.val:=by omega
     rw[this] at su
     have:(a.val.natAbs:Int) = -a.val:=by omega
     rw[this,Int.neg_mul] at su
     omega
    ·simp only[hn,h',decide_true,decide_false,show(true==false)=false from rfl,Bool.not_false,cond_true]
     have:(b.val.natAbs:Int)=b.val:=by omega
     rw[this] at su
     have:(a.val.natAbs:Int) = -a.val:=by omega
     rw[this] at su
     rw[Int.mul_neg];omega
   rw[e.1,e.2]
   exact ov.e2 a b _ _ _ _ _ _ _ _ _ h2 Hv h1 hd h3 (decide_eq_true hn) (by rw[eT];simp) h3 h4 hw zx
  ·have hp:=plus (words q) [1] (by omega) (by simp)
   have hl:=less (words b.val.natAbs) (words r) (by omega) (by rw[aD,aD];omega)
   rw[aD] at hp
   rw[aD,aD] at hl
   have e1:nat [1]=1:=rfl
   rw[e1] at hp
   have xe:=eu (n:=q+1) (k:=(words q).length+1) (by have:=jm q;rw[Nat.pow_succ];omega)
   have Nc:=dL (show b.val.natAbs-r≤b.val.natAbs by omega)
   have hw:=whole (!(decide (a.val<0)==decide (b.val<0))) (words (q+1)) (by omega)
   have zx:=whole false (words (b.val.natAbs-r)) (by omega)
   rw[aD] at hw zx
   have e:a.val/b.val=(bif !(decide (a.val<0)==decide (b.val<0)) then -((q+1:Nat):Int) else ((q+1:Nat):Int))∧a.val%b.val=((b.val.natAbs-r:Nat):Int):=by
    refine uniq _ _ ?_ (by omega) (by omega)
    have su:(a.val.natAbs:Int)=(b.val.natAbs:Int)*q+r:=by rw[←FE];simp
    by_cases h':b.val<0
    ·simp only[hn,h',decide_true,beq_self_eq_true,Bool.not_true,cond_false]
     have e5:(b.val.natAbs:Int) = -b.val:=by omega
     rw[e5] at su
     have:(a.val.natAbs:Int) = -a.val:=by omega
     rw[this,Int.neg_mul] at su
     rw[show ((q+1:Nat):Int)=(q:Int)+1 from by omega,Int.mul_add]
     omega
    ·simp only[hn,h',decide_true,decide_false,show(true==false)=false from rfl,Bool.not_false,cond_true]
     have:(b.val.natAbs:Int)=b.val:=by omega
     rw[this] at su
     have:(a.val.natAbs:Int) = -a.val:=by omega
     rw[this] at su
     rw[show ((q+1:Nat):Int)=(q:Int)+1 from by omega,Int.mul_neg,Int.mul_add];omega
   rw[e.1,e.2]
   exact ov.e1 a b _ _ _ _ _ _ _ _ _ _ _ h2 Hv h1 hd h3 (decide_eq_true hn) (by have:=(dk (n:=r)).1;omega) hp hl h3 h4 hw zx
 ·have hw:=whole (!(decide (a.val<0)==decide (b.val<0))) (words q) (by omega)
  have zx:=whole false (words r) (by omega)
  rw[aD] at hw zx
  have e:a.val/b.val=(bif !(decide (a.val<0)==decide (b.val<0)) then -(q:Int) else (q:Int))∧a.val%b.val=(r:Int):=by
   refine uniq _ _ ?_ (by omega) (by omega)
   have su:(a.val.natAbs:Int)=(b.val.natAbs:Int)*q+r:=by rw[←FE];simp
   by_cases h':b.val<0
   ·simp only[hn,h',decide_true,decide_false,show(false==true)=false from rfl,Bool.not_false,cond_true]
    have e5:(b.val.natAbs:Int) = -b.val:=by omega
    rw[e5] at su
    have:(a.val.natAbs:Int)=a.val:=by omega
    rw[this,Int.neg_mul] at su
    rw[Int.mul_neg];omega
   ·simp only[hn,h',decide_false,beq_self_eq_true,Bool.not_true,cond_false]
    have:(b.val.natAbs:Int)=b.val:=by omega
    rw[this] at su
    have:(a.val.natAbs:Int)=a.val:=by omega
    rw[this] at su
    omega
  rw[e.1,e.2]
  exact ov.e3 a b _ _ _ _ _ _ _ _ _ h2 Hv h1 hd h3 (decide_eq_false hn) h3 h4 hw zx
theorem Gcd(a b:au)(ha:Fit a.ct)(hb:Fit b.ct):Cp 192 [a.pv,b.pv] (Sym.whole (Nat.gcd a.val.natAbs b.val.natAbs)).pv:=by
 have h1:=ct a ha
 have h2:=ct b hb
 have la:(words a.val.natAbs).length≤a.ct.length:=a8 a
 have lb:(words b.val.natAbs).length≤b.ct.length:=a8 b
 have loop:∀(k x y:Nat),y≤k→(words x).length≤1099511627776→(words y).length≤1099511627776→kA.ah (words x) (words y) (Sym.whole (Nat.gcd x y)).pv:=by
  intro k
  induction k with
  |zero =>
   intro x y hy hx _
   have:y=0:=by omega
   subst this
   have hw:=whole false (words x) (by omega)
   rw[aD] at hw
   rw[Nat.gcd_zero_right]
   exact kA.cV _ _ _ (by rw[eT];simp) hw
  |succ k ih =>
   intro x y hy hx Ww
   by_cases h0:y=0
   ·subst h0
    have hw:=whole false (words x) (by omega)
    rw[aD] at hw
    rw[Nat.gcd_zero_right]
    exact kA.cV _ _ _ (by rw[eT];simp) hw
   ·have Wx:(words y).length≠0:=by rw[Ne,dk];exact h0
    have hd:=jH (words x) (words y) (gE _) (gE _) (by intro e;rw[e] at Wx;simp at Wx) (by omega) (by omega)
    rw[aD,aD] at hd
    have hm:=Nat.mod_lt x (show 0<y by omega)
    refine kA.l10 _ _ _ _ (by omega) hd ?_
    rw[Nat.gcd_comm,Nat.gcd_rec,Nat.gcd_comm]
    exact ih y (x%y) (by omega) Ww (Nat.le_trans (dL (Nat.le_of_lt hm)) Ww)
 exact kA.e0 a b _ _ h1 h2 (loop _ _ _ (Nat.le_refl _) (by omega) (by omega))
end bN
end Go.Proofs.YtllmkadmohkbfaaGreatDoor.Sym
