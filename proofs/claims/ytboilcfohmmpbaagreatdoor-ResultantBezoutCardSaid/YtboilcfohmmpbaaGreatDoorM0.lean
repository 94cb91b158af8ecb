/- Bezout and Accepts of the program answer as the reference does. -/
import Derived.Test.YtboilcfohmmpbaaGreatDoorYObs
import Derived.Deep.Slices
import Derived.WideKeyArgs
import Derived.RowKit3
import Derived.WalkKit
import Derived.ProofKit
import Derived.OpenShut
import Derived.SizedLaws
import Derived.Test.YtboilcfohmmpbaaGreatDoorProg
namespace Go.Proofs.YtboilcfohmmpbaaGreatDoor.Sym
open Go Go.RowKit Go.ChangeShapes Go.WideShapes
set_option linter.unusedVariables false
abbrev Old(w:World)(b:Nat):Prop:=b<w.heap.size
def Opens(P:Program)(t:TypeId){α:Type}(f:α→List PV)(Q:α→Prop):Prop :=
 ∀{H:Type} (enc:TypeId×Value→H) (w:World) (base:Nat) (spare:Nat→Bool) (held:Bool) (fuel:Nat) (cs:List Value) (x:DataW H×List MemPlace),
  DataW.trod enc P w base spare held fuel t cs=some x→(∀n∈x.1.weights P t,n≤reachBytes)→∃a,RdCells (Old w) w (f a) cs∧Q a
theorem rdCells_append{I:Nat→Prop}{w:World}{a b:List PV}{us vs:List Value}(h:RdCells I w a us)(k:RdCells I w b vs):RdCells I w (a++b) (us++vs):=by
 refine⟨by rw[List.length_append,List.length_append,h.1,k.1],fun j c u hc hu => ?_⟩
 by_cases hj:j<a.length
 ·rw[List.getElem?_append_left hj] at hc
  rw[List.getElem?_append_left (by rw[←h.1];exact hj)] at hu
  exact h.2 j c u hc hu
 ·rw[List.getElem?_append_right (by omega)] at hc
  rw[List.getElem?_append_right (by rw[←h.1];omega)] at hu
  rw[h.1] at hc
  exact k.2 _ c u hc hu
theorem rdCells_one{I:Nat→Prop}{w:World}{p:PV}{v:Value}(h1:p.one=true)(h:Rd I w p v):RdCells I w [p] [v]:=by
 refine⟨rfl,fun j c u hc hu => ?_⟩
 cases j with
 |zero=>simp at hc hu;subst hc hu;exact⟨h1,h⟩
 |succ j=>simp at hc
theorem opens_int{P:Program}{t:TypeId}{k:IntKind}(ht:P.underlying t=some (.int k)):Opens P t (fun n:Int=>[.int k n]) (fun n=>(Lit.int k n).wf=true):=by
 intro H enc w base spare held fuel cs x h _
 obtain⟨n,rfl,_,hw⟩:=DataW.trod_int ht h
 exact⟨n,rdCells_one rfl (.int _ _),hw⟩
theorem opens_bool{P:Program}{t:TypeId}(ht:P.underlying t=some .bool):Opens P t (fun b:Bool=>[.bool b]) (fun _=>True):=by
 intro H enc w base spare held fuel cs x h _
 obtain⟨b,rfl,_⟩:=DataW.trod_bool ht h
 exact⟨b,rdCells_one rfl (.bool _),trivial⟩
theorem cell_old{w:World}{a:Addr}{v:Value}(h:w.cell? a=some v):a.spot=none∧a.block<w.heap.size:=by
 unfold World.cell? at h
 split at h
 ·rename_i c q r hc
  refine⟨?_,(Array.getElem?_eq_some_iff.1 hc).1⟩
  cases hs:a.spot with
  |none=>rfl
  |some _=>rw[hs] at h;simp at h
 ·cases h
theorem add_spot(a:Addr):a.add 0=a:=rfl
theorem add_spot0(b o i:Nat):(⟨b,o,none⟩:Addr).add i=⟨b,o+i,none⟩:=by
 unfold Addr.add
 split
 ·rename_i h;subst h;rfl
 ·rfl
theorem weights_all{H:Type}{P:Program}{e:TypeId} : ∀{l:List (DataW H)} {d:DataW H} {n:Nat},d∈l→n∈d.weights P e→n∈DataW.weightsAll P e l
 |a::r,d,n,hd,hn=>by
  simp only[DataW.weightsAll,List.mem_append]
  rcases List.mem_cons.1 hd with h|h
  ·subst h;exact Or.inl hn
  ·exact Or.inr (weights_all h hn)
theorem opens_slice{P:Program}{t e:TypeId}{α:Type}{f:α→List PV}{Q:α→Prop}{s sb:Nat}(ht:P.underlying t=some (.slice e))(hs:P.cellsOf e=s)(hs0:0<s)(hb8:P.bytesOf e=sb)(hf:∀a,(f a).length=s)(ho:Opens P e f Q) :
  Opens P t (fun l:List α=>[.list (l.map f)]) (fun l=>l.length*sb≤reachBytes∧∀a∈l,Q a):=by
 intro H enc w base spare held fuel cs x h hwt
 rcases Deep.open_slice ht h with ⟨rfl,_⟩|⟨a,len,cap,m,n,D,Pl,rfl,hb,hl,hm,hmm,hxx,hx⟩
 ·exact⟨[],rdCells_one rfl (.nil _ _),by simp,by simp⟩
 rw[hs] at hx
 have hlm:len≤m:=by rw[hmm];split<;>omega
 have hx':∀i,i<len→∃(y:α×List Value),w.cells? base (a.add (i*s)) s=some y.2∧RdCells (Old w) w (f y.1) y.2∧Q y.1:=by
  intro i hi
  obtain⟨cs',h1,h2⟩:=hx i (by omega)
  obtain⟨y,h3,h4⟩:=ho enc w base spare held n cs' _ h2 (fun q hq=>hwt q (by
   rw[hxx]
   simp only[DataW.weights,ht,List.mem_cons,List.mem_append]
   exact Or.inr (Or.inl (weights_all (List.mem_map.2 ⟨i,List.mem_range.2 hi,rfl⟩) hq))))
  exact⟨(y,cs'),h1,h3,h4⟩
 by_cases h0:len=0
 ·subst h0
  exact⟨[],rdCells_one rfl (.nil _ _),by simp,by simp⟩
 have hne:Nonempty (α×List Value):=⟨(hx' 0 (by omega)).choose⟩
 have:Inhabited (α×List Value):=Classical.inhabited_of_nonempty hne
 obtain⟨Y,hY⟩:=Deep.choose_lt hx'
 obtain⟨c0,_⟩:=hY 0 (by omega)
 obtain⟨_,cl0,cg0⟩:=World.cells?_some c0
 have cg:=cg0 0 hs0
 obtain⟨v0,hv0⟩:∃v,(Y 0).2[0]? = some v:=⟨_,List.getElem?_eq_getElem (by omega)⟩
 rw[hv0] at cg
 rw[Nat.zero_mul,add_spot,add_spot] at cg
 obtain⟨hsp,hbl⟩:=cell_old cg
 obtain⟨b,o,sp⟩:=a
 simp only at hsp hbl
 subst hsp
 have hcell:∀i j:Nat,i<len→j<s→w.cell? ⟨b,o+(i*s+j),none⟩=(Y i).2[j]? := by
  intro i j hi hj
  obtain⟨c1,_⟩:=hY i hi
  obtain⟨_,_,g⟩:=World.cells?_some c1
  have:=g j hj
  rw[add_spot0,add_spot0,Nat.add_assoc] at this
  exact this
 refine⟨(List.range len).map (fun i=>(Y i).1),rdCells_one rfl ?_,?_,?_⟩
 ·have e:len=(((List.range len).map (fun i=>(Y i).1)).map f).length:=by simp
  have hrow:∀(i:Nat) row,(((List.range len).map (fun i=>(Y i).1)).map f)[i]? = some row→i<len∧row=f (Y i).1:=by
   intro i row hr
   have hi:i<len:=by have:=(List.getElem?_eq_some_iff.1 hr).1;rw[←e] at this;exact this
   refine⟨hi,?_⟩
   simp[List.getElem?_map,List.getElem?_range hi] at hr
   exact hr.symm
  have key:Rd (Old w) w (.list (((List.range len).map (fun i=>(Y i).1)).map f)) (.slice (some ⟨b,o,none⟩) (((List.range len).map (fun i=>(Y i).1)).map f).length cap):=by
   refine Rd.list _ b o cap s (fun i j=>((Y i).2[j]?).getD .nilIface) (by rw[←e];exact hl) hbl ?_ ?_ ?_
   ·intro i row hr
    obtain⟨_,rfl⟩:=hrow i row hr
    exact hf _
   ·intro i j row x hr hx2
    obtain⟨hi,rfl⟩:=hrow i row hr
    obtain⟨c1,r1,_⟩:=hY i hi
    have hj:j<s:=by rw[←hf (Y i).1];exact(List.getElem?_eq_some_iff.1 hx2).1
    have hlen:=r1.1
    obtain⟨u,hu⟩:∃u,(Y i).2[j]? = some u:=⟨_,List.getElem?_eq_getElem (by rw[←hlen,hf];exact hj)⟩
    refine⟨(r1.2 j x u hx2 hu).1,?_⟩
    rw[hcell i j hi hj,hu];rfl
   ·intro i j row x hr hx2
    obtain⟨hi,rfl⟩:=hrow i row hr
    obtain⟨c1,r1,_⟩:=hY i hi
    have hj:j<s:=by rw[←hf (Y i).1];exact(List.getElem?_eq_some_iff.1 hx2).1
    have hlen:=r1.1
    obtain⟨u,hu⟩:∃u,(Y i).2[j]? = some u:=⟨_,List.getElem?_eq_getElem (by rw[←hlen,hf];exact hj)⟩
    rw[hu]
    exact(r1.2 j x u hx2 hu).2
  rw[←e] at key
  exact key
 ·have:=hwt ((len+(m-len))*sb) (by
   rw[hxx]
   simp only[DataW.weights,ht,hb8,List.length_map,List.length_range,List.mem_cons,true_or])
  rw[List.length_map,List.length_range]
  exact Nat.le_trans (Nat.mul_le_mul_right _ (by omega)) this
 ·intro y hy
  obtain⟨i,hi,rfl⟩:=List.mem_map.1 hy
  exact(hY i (List.mem_range.1 hi)).2.2
theorem opens_struct{P:Program}{t:TypeId}{fs:Array Field}(ht:P.underlying t=some (.struct fs)){H:Type}{enc:TypeId×Value→H}{w:World}{base:Nat}{spare:Nat→Bool}{held:Bool}{fuel:Nat}{cs:List Value}{x:DataW H×List MemPlace}
  (h:DataW.trod enc P w base spare held fuel t cs=some x):cs.length=P.cellsOf t:=(DataW.trod_struct ht h).choose_spec.choose_spec.2.2.1
theorem opens_field{P:Program}{t u:TypeId}{fs:Array Field}{α:Type}{f:α→List PV}{Q:α→Prop}(ht:P.underlying t=some (.struct fs)){H:Type}{enc:TypeId×Value→H}{w:World}{base:Nat}{spare:Nat→Bool}{held:Bool}{fuel:Nat}{cs:List Value}{x:DataW H×List MemPlace}
  (h:DataW.trod enc P w base spare held fuel t cs=some x) (hwt:∀n∈x.1.weights P t,n≤reachBytes) (i off s:Nat) (hi:(fs[i]?).map (fun f=>(f.type,f.offset))=some (u,off)) (hs:P.cellsOf u=s) (ho:Opens P u f Q):∃a,RdCells (Old w) w (f a) ((cs.drop off).take s)∧Q a:=by
 obtain⟨xs,n,_,hx,hl,hlen,hf⟩:=DataW.trod_struct ht h
 cases hfi:fs[i]? with
 |none=>rw[hfi] at hi;cases hi
 |some fd =>
  rw[hfi] at hi
  injection hi with hi
  injection hi with e1 e2
  have h1:=hf i fd hfi
  have h2:i<xs.length:=by rw[hlen];exact(Array.getElem?_eq_some_iff.1 hfi).1
  rw[List.getElem?_eq_getElem h2,e1,e2,hs] at h1
  refine ho enc w base spare held n _ _ h1 (fun q hq=>hwt q ?_)
  rw[hx]
  simp only[DataW.weights,ht]
  refine DataW.weights_mem_each (j:=i) (t:=u) (d:=xs[i].1) ?_ ?_ q hq
  ·rw[List.getElem?_map,Array.getElem?_toList,hfi]
   exact congrArg some e1
  ·rw[List.getElem?_map,List.getElem?_eq_getElem h2];rfl
def fldsOf:Option TypeDesc→Option (List (TypeId×Nat))
 |some (.struct fs)=>some (fs.toList.map fun f=>(f.type,f.offset))
 |_=>none
theorem flds_spec{u:Option TypeDesc}{l:List (TypeId×Nat)}(h:fldsOf u=some l):∃fs,u=some (.struct fs)∧∀i:Nat,(fs[i]?).map (fun f=>(f.type,f.offset))=l[i]? := by
 unfold fldsOf at h
 split at h
 ·rename_i fs
  injection h with h
  refine⟨fs,rfl,fun i => ?_⟩
  rw[←h,List.getElem?_map,Array.getElem?_toList]
 ·cases h
theorem rd_struct{P:Program}{t:TypeId}{fs:Array Field}{w:World}{r:Reach}{b0:Nat}{v:Value}{cs:List PV}(ht:P.underlying t=some (.struct fs))(hv:Value.okWide P w r b0 t v)(h:RdCells (Old w) w cs v.cells.toList):Rd (Old w) w (.agg cs) v:=by
 obtain⟨us,rfl,_⟩:=okWide_struct ht hv
 have h:RdCells (Old w) w cs us.toList:=h
 refine .agg cs us (by rw[h.1];simp) (fun j c hc => ?_) (fun j c u hc hu=>(h.2 j c u hc (by simpa using hu)).2)
 obtain⟨u,hu⟩:∃u,us.toList[j]? = some u:=⟨_,List.getElem?_eq_getElem (by rw[←h.1];exact(List.getElem?_eq_some_iff.1 hc).1)⟩
 exact(h.2 j c u hc hu).1
theorem keeps_kept{w w':World}{may:MemPlace→Prop}(h:Keeps (fun _=>False) w w'):w.keptBut w' may:=by
 refine⟨h.os,h.output,fun i hi => ?_⟩
 have e:=h.block i hi (fun h=>h)
 rw[e]
 cases w.heap[i]? with
 |none=>rfl
 |some o=>cases o<;>simp
theorem keeps_frozen{w w':World}(h:Keeps (fun _=>False) w w'){a:Addr}(ha:a.block<w.heap.size):w'.frozen? a=w.frozen? a:=by
 have e:=h.block _ ha (fun h=>h)
 unfold World.frozen?
 rw[e]
theorem keeps_same{w w':World}(h:Keeps (fun _=>False) w w'){p:MemPlace}(hp:p.block<w.heap.size):w.sameAt w' p:=by
 cases p with
 |cell b off =>
  have e:=h.block b hp (fun h=>h)
  show w'.cell? _=w.cell? _
  simp[World.cell?,e]
 |map b=>exact h.block b hp (fun h=>h)
section
variable {H:Type} {enc:TypeId×Value→H} {P:Program}
theorem post_true{f:Func}{s:ChangeSpec}{apart fresh handsOn again:Bool}{W W':World}{args:Array Value}{ds gs:List (DataW H)}{before:List MemPlace}{tb:TypeId}
  (hW:DataW.Whole enc P f.params.toList s.vars apart W args.toList ds gs before) (hk:Keeps (fun _=>False) W W')
  (hvars:s.vars=[]) (hrt:f.resultTypes = #[tb]) (htb:P.underlying tb=some .bool)
  (hres:(s.fn H (ds++gs)).results=[.lit (.bool true)]) (hargs:(s.fn H (ds++gs)).args=ds) (hgs:(s.fn H (ds++gs)).vars=[])
  (hl:laidOutB P=true) (hr:∀t∈f.params.toList,P.readableRec t=true∧t<P.types.size):s.post enc P f apart fresh handsOn again W args (.bool true) W':=by
 have hlt:=hW.lt
 obtain⟨p,q,hA,hV,hpq,hz,hn⟩:=hW
 have hW:DataW.Whole enc P f.params.toList s.vars apart W args.toList ds gs before:=⟨p,q,hA,hV,hpq,hz,hn⟩
 rw[hvars] at hV
 obtain⟨hg0,hq0⟩:=trodVars_none hV
 subst hq0
 have hpp:before=p:=by rw[hpq];simp
 have again':∀(sp:Nat→Bool),(∀x∈before,sp x.block=true)→DataW.TrodAll enc P W' 0 sp true f.params.toList args.toList ds p:=by
  intro sp hsp
  have key:∀{ts:List TypeId} {vs:List Value} {es:List (DataW H)} {ps:List MemPlace},(∀t∈ts,P.readableRec t=true∧t<P.types.size)→(∀x∈ps,x∈before)→DataW.TrodAll enc P W 0 (fun _=>true) true ts vs es ps→DataW.TrodAll enc P W' 0 sp true ts vs es ps:=by
   intro ts
   induction ts with
   |nil =>
    intro vs es ps _ _ h
    obtain⟨rfl,rfl,rfl⟩:=trodAll_nil h
    exact trodAll_mk0
   |cons t ts ih =>
    intro vs es ps hts hps h
    obtain⟨v,vs',d,ds',a,b,rfl,rfl,rfl,h1,h2⟩:=trodAll_cons h
    refine⟨a,b,WideElems.Trod_stays hl (hts t (List.mem_cons_self ..)).1 (hts t (List.mem_cons_self ..)).2 h1 (fun x hx=>keeps_same hk (hlt x (hps x (List.mem_append_left _ hx)))) (fun x hx=>hsp x (hps x (List.mem_append_left _ hx))),ih (fun u hu=>hts u (List.mem_cons_of_mem _ hu)) (fun x hx=>hps x (List.mem_append_right _ hx)) h2,rfl⟩
  exact key hr (fun x hx=>by rw[hpp];exact hx) hA
 have hold:∀x∈before,(fun b=>decide (b<W.heap.size)) x.block=true:=fun x hx=>by simpa using hlt x hx
 have hres':∀(b:Nat) (sp:Nat→Bool) (hd:Bool),DataW.TrodAll enc P W' b sp hd f.resultTypes.toList ((Value.bool true).resultList f.resultTypes.size) (s.fn H (ds++gs)).results []:=by
  intro b sp hd
  rw[hrt,hres]
  exact trodAll_mk1 (shut_bool htb true)
 have hv':∀sp:Nat→Bool,DataW.TrodVars enc P W' sp s.vars (s.fn H (ds++gs)).vars []:=by
  intro sp;rw[hvars,hgs];rfl
 have again2:∀(sp:Nat→Bool),(∀x∈before,sp x.block=true)→DataW.TrodAll enc P W' 0 sp true f.params.toList args.toList (s.fn H (ds++gs)).args p:=by
  intro sp hsp
  rw[hargs];exact again' sp hsp
 refine⟨ds,gs,before,[],p,[],hW,hres' _ _ _,again2 _ hold,hv' _,keeps_kept hk,fun _ => ?_⟩
 refine⟨ok_one hrt rfl (okWide_bool_mk htb true),_,_,([]++p)++[],⟨[]++p,[],trodAll_append (again2 _ (fun _ _=>rfl)) (hres' _ _ _),hv' _,rfl,?_,?_⟩,?_⟩
 ·intro b off hp
  have hp':MemPlace.cell b off∈before:=by rw[hpp];simpa using hp
  rw[keeps_frozen hk (hlt _ hp')]
  exact hz b off hp'
 ·intro ha
  have:=hn ha
  rw[hpp] at this
  simpa using this
 ·intro x hx _
  rw[hpp]
  simpa using hx
end
end Go.Proofs.YtboilcfohmmpbaaGreatDoor.Sym
namespace Go.Proofs.YtboilcfohmmpbaaGreatDoor.Sym
open Go
structure ARat where
 neg:Bool
 num:List UInt32
 den:List UInt32
def ARat.cells(x:ARat):List PV:=[(vB x.neg),(wordsPV x.num),(wordsPV x.den)]
def ARat.pv(x:ARat):PV := .agg x.cells
theorem sz_ARat:Sz ARat.cells 3:=fun _=>rfl
abbrev APoly:=List ARat
abbrev polyPV(p:APoly):PV := .list (p.map ARat.cells)
structure ACofactors where
 u:List ARat
 v:List ARat
 g:List ARat
def ACofactors.cells(x:ACofactors):List PV:=[(polyPV x.u),(polyPV x.v),(polyPV x.g)]
def ACofactors.pv(x:ACofactors):PV := .agg x.cells
structure AWhole where
 neg:Bool
 mag:List UInt32
def AWhole.cells(x:AWhole):List PV:=[(vB x.neg),(wordsPV x.mag)]
def AWhole.pv(x:AWhole):PV := .agg x.cells
structure AAnonPRows where
 p:List ARat
 rows:Int
def AAnonPRows.cells(x:AAnonPRows):List PV:=[(polyPV x.p),(vI x.rows)]
theorem sz_AAnonPRows:Sz AAnonPRows.cells 2:=fun _=>rfl
@[reducible] noncomputable def prg:Program:=Tryz.prog
def tab:Tab:=[(2,⟨.int .i64,1,8,false,[.int .i64 0]⟩),
 (3,⟨.int .i64,1,8,false,[.int .i64 0]⟩),
 (4,⟨.bool,1,1,false,[(vB false)]⟩),
 (5,⟨.int .u8,1,1,false,[.int .u8 0]⟩),
 (6,⟨.int .u8,1,1,false,[.int .u8 0]⟩),
 (7,⟨.struct [(0,1,false),(1,1,false),(2,1,false),(3,1,false)],4,24,true,[.int .i64 0,.int .i64 0,(vB false),.int .u8 0]⟩),
 (8,⟨.struct [(0,1,false),(1,1,false),(2,1,false),(3,1,false)],4,24,true,[.int .i64 0,.int .i64 0,(vB false),.int .u8 0]⟩),
 (9,⟨.str,1,16,false,[.str ByteArray.empty]⟩),
 (10,⟨.str,1,16,false,[.str ByteArray.empty]⟩),
 (11,⟨.str,1,16,false,[.str ByteArray.empty]⟩),
 (12,⟨.int .u64,1,8,false,[.int .u64 0]⟩),
 (13,⟨.struct [(0,1,false),(1,1,false)],2,24,true,[.str ByteArray.empty,.int .u64 0]⟩),
 (14,⟨.struct [(0,1,false),(1,1,false)],2,24,true,[.str ByteArray.empty,.int .u64 0]⟩),
 (20,⟨.iface,1,16,false,[.nilI]⟩),
 (21,⟨.int .i32,1,4,false,[.int .i32 0]⟩),
 (22,⟨.slice 33,1,24,false,[.nilS]⟩),
 (23,⟨.slice 33,1,24,false,[.nilS]⟩),
 (26,⟨.slice 22,1,24,false,[.nilS]⟩),
 (27,⟨.iface,1,16,false,[.nilI]⟩),
 (28,⟨.iface,1,16,false,[.nilI]⟩),
 (31,⟨.slice 77,1,24,false,[.nilS]⟩),
 (32,⟨.struct [(0,1,false),(1,1,false),(2,1,false)],3,56,true,[(vB false),.nilS,.nilS]⟩),
 (33,⟨.struct [(0,1,false),(1,1,false),(2,1,false)],3,56,true,[(vB false),.nilS,.nilS]⟩),
 (52,⟨.slice 55,1,24,false,[.nilS]⟩),
 (55,⟨.int .i8,1,1,false,[.int .i8 0]⟩),
 (61,⟨.int .i64,1,8,false,[.int .i64 0]⟩),
 (63,⟨.struct [(0,1,false),(1,1,false),(2,1,false)],3,72,true,[.nilS,.nilS,.nilS]⟩),
 (64,⟨.struct [(0,1,false),(1,1,false),(2,1,false)],3,72,true,[.nilS,.nilS,.nilS]⟩),
 (75,⟨.slice 23,1,24,false,[.nilS]⟩),
 (77,⟨.int .u32,1,4,false,[.int .u32 0]⟩),
 (92,⟨.struct [(0,1,false),(1,1,false)],2,32,true,[(vB false),.nilS]⟩),
 (93,⟨.struct [(0,1,false),(1,1,false)],2,32,true,[(vB false),.nilS]⟩),
 (100,⟨.slice 3,1,24,false,[.nilS]⟩),
 (120,⟨.struct [(0,1,false),(1,1,false)],2,32,true,[.nilS,.int .i64 0]⟩),
 (121,⟨.slice 120,1,24,false,[.nilS]⟩),
 (135,⟨.int .u64,1,8,false,[.int .u64 0]⟩),
 (136,⟨.int .u64,1,8,false,[.int .u64 0]⟩),
 (141,⟨.slice 9,1,24,false,[.nilS]⟩),
 (155,⟨.slice 5,1,24,false,[.nilS]⟩),
 (196,⟨.int .u8,1,1,false,[.int .u8 0]⟩),
 (197,⟨.int .u8,1,1,false,[.int .u8 0]⟩),
 (199,⟨.int .i32,1,4,false,[.int .i32 0]⟩),
 (200,⟨.int .i32,1,4,false,[.int .i32 0]⟩)]
theorem tabOk:TOk prg tab:=TOk.of (by kernel_rfl)
theorem mixed:prg.follows .mixedOrders=true:=by kernel_rfl
end Go.Proofs.YtboilcfohmmpbaaGreatDoor.Sym
namespace Go.Proofs.YtboilcfohmmpbaaGreatDoor.Sym
open Go Go.RowKit Go.ChangeShapes Go.WideShapes
set_option linter.unusedVariables false
theorem u32_val{n:Int}(h:(Lit.int .u32 n).wf=true):∃v:UInt32,(v.toNat:Int)=n:=by
 have h:(0≤n∧n≤4294967295):=by simpa[Lit.wf,IntKind.min,IntKind.max,IntKind.signed,IntKind.bits] using h
 refine⟨UInt32.ofNat n.toNat,?_⟩
 rw[show (UInt32.ofNat n.toNat).toNat=n.toNat from by simp;omega]
 omega
theorem opens_word:Opens prg 77 wordPV (fun _=>True):=by
 intro H enc w base spare held fuel cs x h hwt
 obtain⟨n,h1,h2⟩:=opens_int (k := .u32) (show prg.underlying 77=some (.int .u32) by kernel_rfl) enc w base spare held fuel cs x h hwt
 obtain⟨v,rfl⟩:=u32_val h2
 exact⟨v,h1,trivial⟩
theorem opens_words:Opens prg 31 (fun l:Words=>[wordsPV l]) (fun l=>l.length*4≤reachBytes):=by
 intro H enc w base spare held fuel cs x h hwt
 obtain⟨l,h1,h2,_⟩:=opens_slice (s:=1) (show prg.underlying 31=some (.slice 77) by kernel_rfl) (by kernel_rfl) (by omega) (sb:=4) (by kernel_rfl) (fun _=>rfl) opens_word enc w base spare held fuel cs x h hwt
 exact⟨l,h1,h2⟩
theorem split3{α:Type}(cs:List α)(a b c:Nat)(h:cs.length=a+b+c):cs=(cs.drop 0).take a++((cs.drop a).take b++(cs.drop (a+b)).take c):=by
 have e:(cs.drop (a+b)).take c=cs.drop (a+b):=List.take_of_length_le (by rw[List.length_drop];omega)
 have h1:(cs.drop a).take b++cs.drop (a+b)=cs.drop a:=by
  have:=List.take_append_drop b (cs.drop a)
  rwa[List.drop_drop] at this
 rw[e,h1,List.drop_zero,List.take_append_drop]
def LenR(a:ARat):Prop:=a.num.length*4≤reachBytes∧a.den.length*4≤reachBytes
theorem opens_ARat:Opens prg 33 ARat.cells LenR:=by
 intro H enc w base spare held fuel cs x h hwt
 obtain⟨fs,hu,e⟩:=flds_spec (show fldsOf (prg.underlying 33)=some [(4,0),(31,1),(31,2)] by kernel_rfl)
 have hl:=opens_struct hu h
 have hl:cs.length=1+1+1:=hl.trans (by kernel_rfl)
 obtain⟨b,r0,_⟩:=opens_field hu h hwt 0 0 1 (e 0) (by kernel_rfl) (opens_bool (show prg.underlying 4=some .bool by kernel_rfl))
 obtain⟨n,r1,q1⟩:=opens_field hu h hwt 1 1 1 (e 1) (by kernel_rfl) opens_words
 obtain⟨d,r2,q2⟩:=opens_field hu h hwt 2 2 1 (e 2) (by kernel_rfl) opens_words
 refine⟨⟨b,n,d⟩,?_,q1,q2⟩
 rw[split3 cs 1 1 1 hl]
 exact rdCells_append r0 (rdCells_append r1 r2)
end Go.Proofs.YtboilcfohmmpbaaGreatDoor.Sym
namespace Go.Proofs.YtboilcfohmmpbaaGreatDoor.Sym
open Go Go.RowKit Go.ChangeShapes Go.WideShapes
set_option linter.unusedVariables false
theorem opens_poly:Opens prg 23 (lcell ARat.cells) (fun l=>∀a∈l,LenR a):=by
 intro H enc w base spare held fuel cs x h hwt
 obtain⟨l,h1,_,h2⟩:=opens_slice (s:=3) (show prg.underlying 23=some (.slice 33) by kernel_rfl) (by kernel_rfl) (by omega) (sb:=56) (by kernel_rfl) (fun _=>rfl) opens_ARat enc w base spare held fuel cs x h hwt
 exact⟨l,h1,h2⟩
end Go.Proofs.YtboilcfohmmpbaaGreatDoor.Sym
namespace Go.Proofs.YtboilcfohmmpbaaGreatDoor.Sym
open Go Go.RowKit Go.ChangeShapes Go.WideShapes
set_option linter.unusedVariables false
theorem opens_ACofactors:Opens prg 64 ACofactors.cells (fun x=>(∀a∈x.u,LenR a)∧(∀a∈x.v,LenR a)∧∀a∈x.g,LenR a):=by
 intro H enc w base spare held fuel cs x h hwt
 obtain⟨fs,hu,e⟩:=flds_spec (show fldsOf (prg.underlying 64)=some [(23,0),(23,1),(23,2)] by kernel_rfl)
 have hl:=opens_struct hu h
 have hl:cs.length=1+1+1:=hl.trans (by kernel_rfl)
 obtain⟨a,r0,q0⟩:=opens_field hu h hwt 0 0 1 (e 0) (by kernel_rfl) opens_poly
 obtain⟨b,r1,q1⟩:=opens_field hu h hwt 1 1 1 (e 1) (by kernel_rfl) opens_poly
 obtain⟨c,r2,q2⟩:=opens_field hu h hwt 2 2 1 (e 2) (by kernel_rfl) opens_poly
 refine⟨⟨a,b,c⟩,?_,q0,q1,q2⟩
 rw[split3 cs 1 1 1 hl]
 exact rdCells_append r0 (rdCells_append r1 r2)
end Go.Proofs.YtboilcfohmmpbaaGreatDoor.Sym
namespace Go.Proofs.YtboilcfohmmpbaaGreatDoor.Sym
def nat:Words→Nat
 |[]=>0
 |w::r=>w.toNat+4294967296*nat r
def wordsF:Nat→Nat→Words
 |0,_=>[]
 |f+1,n=>bif Nat.beq n 0 then [] else UInt32.ofNat n::wordsF f (n/4294967296)
def words(n:Nat):Words:=wordsF n n
theorem w_lt(w:UInt32):w.toNat<4294967296:=w.toNat_lt
theorem w_ofNat(n:Nat):(UInt32.ofNat n).toNat=n%4294967296:=by simp
theorem w_eq{a b:UInt32}(h:a.toNat=b.toNat):a=b:=UInt32.toNat_inj.1 h
theorem w_of{n:Nat}(h:n<4294967296):(UInt32.ofNat n).toNat=n:=by rw[w_ofNat];exact Nat.mod_eq_of_lt h
theorem w_ex(n:Nat)(h:n<4294967296):∃w:UInt32,w.toNat=n:=⟨UInt32.ofNat n,w_of h⟩
theorem nat_wordsF : ∀ (f n : Nat), n ≤ f → nat (wordsF f n) = n
  | 0, n, h => by have : n = 0 := by omega
                  subst this; rfl
  | f + 1, n, h => by
    unfold wordsF
    by_cases h0 : n = 0
    · subst h0; rfl
    · have : Nat.beq n 0 = false := by
        cases hb : Nat.beq n 0 with
        | true => exact absurd (Nat.eq_of_beq_eq_true hb) h0
        | false => rfl
      rw [this]
      show (UInt32.ofNat n).toNat + 4294967296 * nat (wordsF f (n / 4294967296)) = n
      rw [nat_wordsF f (n / 4294967296) (by omega), w_ofNat]
      omega
theorem nat_words(n:Nat):nat (words n)=n:=nat_wordsF n n (Nat.le_refl n)
def cn:Words→Bool
 |[]=>true
 |[w]=>w.toNat != 0
 |_::w::r=>cn (w::r)
theorem cn_tail{w:UInt32}{r:Words}(h:cn (w::r)=true):cn r=true:=by
 cases r with
 |nil=>rfl
 |cons v r=>exact h
theorem cn_pos:∀{l:Words},cn l=true→l≠[]→0<nat l
 |[],_,h=>absurd rfl h
 |[w],h,_=>by
  simp[cn] at h
  show 0<w.toNat+4294967296*0
  omega
 |w::v::r,h,_=>by
  have:=cn_pos (l:=v::r) h (by simp)
  show 0<w.toNat+4294967296*nat (v::r)
  omega
theorem cn_inj:∀{a b:Words},cn a=true→cn b=true→nat a=nat b→a=b
 |[],[],_,_,_=>rfl
 |[],w::r,_,hb,h=>by have:=cn_pos hb (by simp);have h0:nat []=0:=rfl;omega
 |w::r,[],ha,_,h=>by have:=cn_pos ha (by simp);have h0:nat []=0:=rfl;omega
 |w::r,v::s,ha,hb,h=>by
  have h:w.toNat+4294967296*nat r=v.toNat+4294967296*nat s:=h
  have h1:=w_lt w
  have h2:=w_lt v
  have h3:w.toNat=v.toNat:=by omega
  have h4:nat r=nat s:=by omega
  rw[w_eq h3,cn_inj (cn_tail ha) (cn_tail hb) h4]
theorem cn_wordsF:∀(f n:Nat),n≤f→cn (wordsF f n)=true
 |0,n,_=>rfl
 |f+1,n,h=>by
  unfold wordsF
  by_cases h0:n=0
  ·subst h0;rfl
  ·have:Nat.beq n 0=false:=by
    cases hb:Nat.beq n 0 with
    |true=>exact absurd (Nat.eq_of_beq_eq_true hb) h0
    |false=>rfl
   rw[this]
   show cn (UInt32.ofNat n::wordsF f (n/4294967296))=true
   have ih:=cn_wordsF f (n/4294967296) (by omega)
   have hn:=nat_wordsF f (n/4294967296) (by omega)
   cases hr:wordsF f (n/4294967296) with
   |nil =>
    rw[hr] at hn
    have hn:0=n/4294967296:=hn
    show((UInt32.ofNat n).toNat != 0)=true
    rw[w_ofNat]
    have:n%4294967296≠0:=by omega
    simpa using this
   |cons v r=>rw[hr] at ih;exact ih
theorem cn_words(n:Nat):cn (words n)=true:=cn_wordsF n n (Nat.le_refl n)
theorem words_of{l:Words}{n:Nat}(hc:cn l=true)(h:nat l=n):words n=l:=cn_inj (cn_words n) hc (by rw[nat_words,h])
theorem words_nat{l:Words}(hc:cn l=true):words (nat l)=l:=words_of hc rfl
theorem words_zero:words 0=[]:=rfl
theorem words_nil{n:Nat} : words n=[]↔n=0:=by
 constructor
 ·intro h;rw[←nat_words n,h];rfl
 ·intro h;subst h;rfl
theorem words_len0{n:Nat} : (words n).length=0↔n=0:=by rw[List.length_eq_zero_iff,words_nil]
theorem nat_lt:∀l:Words,nat l<4294967296^l.length
 |[]=>by simp[nat]
 |w::r=>by
  have h1:=nat_lt r
  have h2:=w_lt w
  show w.toNat+4294967296*nat r<4294967296^(r.length+1)
  rw[Nat.pow_succ]
  omega
theorem nat_append:∀a b:Words,nat (a++b)=nat a+4294967296^a.length*nat b
 |[],b=>by simp[nat]
 |w::r,b=>by
  show w.toNat+4294967296*nat (r++b)=w.toNat+4294967296*nat r+4294967296^(r.length+1)*nat b
  rw[nat_append r b,Nat.pow_succ,Nat.mul_add,←Nat.mul_assoc,Nat.mul_comm 4294967296 (4294967296^r.length)]
  omega
theorem nat_split(l:Words)(k:Nat)(h:k≤l.length):nat l=nat (l.take k)+4294967296^k*nat (l.drop k):=by
 conv=>lhs;rw[←List.take_append_drop k l]
 rw[nat_append,List.length_take,Nat.min_eq_left h]
theorem nat_take_succ{l:Words}{k:Nat}{v:UInt32}(h:l[k]? = some v):nat (l.take (k+1))=nat (l.take k)+4294967296^k*v.toNat:=by
 have hk:k<l.length:=(List.getElem?_eq_some_iff.1 h).1
 rw[List.take_add_one,h]
 show nat (l.take k++[v])=_
 rw[nat_append,List.length_take,Nat.min_eq_left (Nat.le_of_lt hk)]
 simp[nat]
theorem nat_drop{l:Words}{k:Nat}{v:UInt32}(h:l[k]? = some v):nat (l.drop k)=v.toNat+4294967296*nat (l.drop (k+1)):=by
 have hk:k<l.length:=(List.getElem?_eq_some_iff.1 h).1
 have hv:l[k]=v:=by
  have:=List.getElem?_eq_getElem hk
  rw[h] at this;injection this with this;exact this.symm
 rw[List.drop_eq_getElem_cons hk,hv];rfl
theorem nat_zeros:∀n:Nat,nat (List.replicate n 0)=0
 |0=>rfl
 |n+1=>by
  show(0:UInt32).toNat+4294967296*nat (List.replicate n 0)=0
  rw[nat_zeros n];rfl
theorem nat_set:∀(l:Words) (k:Nat) (v u:UInt32),l[k]? = some u→nat (l.set k v)+4294967296^k*u.toNat=nat l+4294967296^k*v.toNat
 |[],k,v,u,h=>by simp at h
 |w::r,0,v,u,h=>by
  simp at h;subst h
  show v.toNat+4294967296*nat r+4294967296^0*w.toNat=w.toNat+4294967296*nat r+4294967296^0*v.toNat
  omega
 |w::r,k+1,v,u,h=>by
  have ih:=nat_set r k v u (by simpa using h)
  show w.toNat+4294967296*nat (r.set k v)+4294967296^(k+1)*u.toNat=w.toNat+4294967296*nat r+4294967296^(k+1)*v.toNat
  rw[Nat.pow_succ,Nat.mul_comm (4294967296^k) 4294967296,Nat.mul_assoc,Nat.mul_assoc]
  omega
theorem nat_take_set{l:Words}{k:Nat}{v:UInt32}(h:k<l.length):nat ((l.set k v).take (k+1))=nat (l.take k)+4294967296^k*v.toNat:=by
 rw[nat_take_succ (v:=v) (by simp[h]),List.take_set_of_le (Nat.le_refl k)]
theorem nat_take_all{l:Words}{k:Nat}(h:l.length≤k):nat (l.take k)=nat l:=by rw[List.take_of_length_le h]
theorem len_of_lt{n k:Nat}(h:n<4294967296^k):(words n).length≤k:=by
 have key:∀(l:Words),cn l=true→∀k,nat l<4294967296^k→l.length≤k:=by
  intro l
  induction l with
  |nil=>intro _ k _;simp
  |cons w r ih =>
   intro hc k hk
   have hp:=cn_pos hc (by simp)
   cases k with
   |zero=>simp at hk;omega
   |succ k =>
    have h1:w.toNat+4294967296*nat r<4294967296^(k+1):=hk
    rw[Nat.pow_succ] at h1
    have:=ih (cn_tail hc) k (by omega)
    simp;omega
 exact key _ (cn_words n) k (by rw[nat_words];exact h)
theorem lt_of_len(n:Nat):n<4294967296^(words n).length:=by
 have:=nat_lt (words n)
 rwa[nat_words] at this
theorem pow_le{a b:Nat}(h:a≤b):4294967296^a≤4294967296^b:=Nat.pow_le_pow_right (by omega) h
theorem len_mono{m n:Nat}(h:m≤n):(words m).length≤(words n).length:=len_of_lt (Nat.lt_of_le_of_lt h (lt_of_len n))
theorem len_nat_le(l:Words):(words (nat l)).length≤l.length:=len_of_lt (nat_lt l)
theorem lt_of_cn{l:Words}(hc:cn l=true)(hne:l≠[]):4294967296^(l.length-1)≤nat l:=by
 refine Nat.le_of_not_lt fun h => ?_
 have h1:=len_of_lt h
 rw[words_nat hc] at h1
 have:0<l.length:=List.length_pos_iff.2 hne
 omega
theorem cn_last:∀{l:Words} {v:UInt32},l[l.length-1]? = some v→(cn l=true↔v.toNat≠0)
 |[],v,h=>by simp at h
 |[w],v,h=>by simp at h;subst h;simp[cn]
 |w::u::r,v,h=>by
  have h':(u::r)[(u::r).length-1]? = some v:=by
   simp only[List.length_cons,Nat.add_sub_cancel] at h ⊢
   rw[show r.length+1=(r.length)+1 from rfl,List.getElem?_cons_succ] at h
   exact h
  exact cn_last (l:=u::r) h'
end Go.Proofs.YtboilcfohmmpbaaGreatDoor.Sym
namespace Go.Proofs.YtboilcfohmmpbaaGreatDoor.Sym.Path
open Go
set_option maxRecDepth 20000
set_option linter.unusedVariables false
namespace integer_Neg
theorem e0(a:AWhole)(neg:Bool)(mag:List UInt32)(who:AWhole)(h1:Contract prg 109 [a.pv] (vB neg))(h2:Contract prg 110 [a.pv] (wordsPV mag))(h3:Contract prg 108 [(vB (!neg)),(wordsPV mag)] who.pv):Contract prg 62 [a.pv] who.pv :=
 Contract.ofL Tryz.func62 (by kernel_rfl) (L.done mixed tabOk (n:=72) (ns:=[1,1,1]) (tr:=[.reg [],dr 6 1 [.none,(.pv (vB neg)),.none,.none,(.pv (wordsPV mag)),(.pv who.pv)]]) (cj h1 (cj h2 (cj h3 True.intro))) (by kernel_rfl))
end integer_Neg
namespace integer_Cmp
theorem e0(a b:AWhole)(sig sig1:Int)(h1:Contract prg 72 [a.pv] (vI sig))(h2:Contract prg 72 [b.pv] (vI sig1))(h3:sig≠sig1)(h4:sig<sig1):Contract prg 63 [a.pv,b.pv] (vI (-1)) :=
 Contract.ofL Tryz.func63 (by kernel_rfl) (L.done mixed tabOk (n:=102) (ns:=[1,1,1,1]) (tr:=[.reg [],dr 4 2 [.none,(.pv (vI sig)),.none,(.pv (vI sig1))],.reg [],.dec true,.reg [],.dec true,.reg []]) (cj h1 (cj h2 (cj (dne_t h3) (cj (dlt_t h4) True.intro)))) (by kernel_rfl))
theorem e1(a b:AWhole)(sig sig1:Int)(h1:Contract prg 72 [a.pv] (vI sig))(h2:Contract prg 72 [b.pv] (vI sig1))(h3:sig≠sig1)(h4:sig1≤sig):Contract prg 63 [a.pv,b.pv] (vI 1) :=
 Contract.ofL Tryz.func63 (by kernel_rfl) (L.done mixed tabOk (n:=105) (ns:=[1,1,1,1]) (tr:=[.reg [],dr 4 2 [.none,(.pv (vI sig)),.none,(.pv (vI sig1))],.reg [],.dec true,.reg [],.dec false,.reg []]) (cj h1 (cj h2 (cj (dne_t h3) (cj (dlt_f h4) True.intro)))) (by kernel_rfl))
theorem e2(a b:AWhole)(sig sig1:Int)(mag mag1:List UInt32)(com:Int)(neg:Bool)(h1:Contract prg 72 [a.pv] (vI sig))(h2:Contract prg 72 [b.pv] (vI sig1))(h3:sig=sig1)(h4:Contract prg 110 [a.pv] (wordsPV mag))(h5:Contract prg 110 [b.pv] (wordsPV mag1))(h6:Contract prg 111 [(wordsPV mag),(wordsPV mag1)] (vI com))(h7:Contract prg 109 [a.pv] (vB neg))(h8:neg=true)(h9:InI64 (-com)):Contract prg 63 [a.pv,b.pv] (vI (-com)) :=
 Contract.ofL Tryz.func63 (by kernel_rfl) (L.done mixed tabOk (n:=111) (ns:=[1,1,1,1,1,1,1,1,1]) (tr:=[.reg [],dr 4 2 [.none,(.pv (vI sig)),.none,(.pv (vI sig1))],.reg [],.dec false,dr 5 1 [.none,(.pv (wordsPV mag)),.none,(.pv (wordsPV mag1)),(.pv (vI com))],.reg [.none,(.pv (vB neg))],.dec true,.reg [.none,(iI (-com))]]) (cj h1 (cj h2 (cj (dne_f h3) (cj h4 (cj h5 (cj h6 (cj h7 (cj h8 (cj (us_neg h9) True.intro))))))))) (by kernel_rfl))
theorem e3(a b:AWhole)(sig sig1:Int)(mag mag1:List UInt32)(com:Int)(neg:Bool)(h1:Contract prg 72 [a.pv] (vI sig))(h2:Contract prg 72 [b.pv] (vI sig1))(h3:sig=sig1)(h4:Contract prg 110 [a.pv] (wordsPV mag))(h5:Contract prg 110 [b.pv] (wordsPV mag1))(h6:Contract prg 111 [(wordsPV mag),(wordsPV mag1)] (vI com))(h7:Contract prg 109 [a.pv] (vB neg))(h8:neg=false):Contract prg 63 [a.pv,b.pv] (vI com) :=
 Contract.ofL Tryz.func63 (by kernel_rfl) (L.done mixed tabOk (n:=114) (ns:=[1,1,1,1,1,1,1,1]) (tr:=[.reg [],dr 4 2 [.none,(.pv (vI sig)),.none,(.pv (vI sig1))],.reg [],.dec false,dr 5 1 [.none,(.pv (wordsPV mag)),.none,(.pv (wordsPV mag1)),(.pv (vI com))],.reg [.none,(.pv (vB neg))],.dec false,.reg []]) (cj h1 (cj h2 (cj (dne_f h3) (cj h4 (cj h5 (cj h6 (cj h7 (cj h8 True.intro)))))))) (by kernel_rfl))
end integer_Cmp
namespace integer_Mul
theorem e0(a b:AWhole)(neg neg1:Bool)(mag mag1 tim:List UInt32)(who:AWhole)(h1:Contract prg 109 [a.pv] (vB neg))(h2:Contract prg 109 [b.pv] (vB neg1))(h3:Contract prg 110 [a.pv] (wordsPV mag))(h4:Contract prg 110 [b.pv] (wordsPV mag1))(h5:Contract prg 112 [(wordsPV mag),(wordsPV mag1)] (wordsPV tim))(h6:Contract prg 108 [(vB (!(neg==neg1))),(wordsPV tim)] who.pv):Contract prg 64 [a.pv,b.pv] who.pv :=
 Contract.ofL Tryz.func64 (by kernel_rfl) (L.done mixed tabOk (n:=72) (ns:=[1,1,1,1,1,1]) (tr:=[.reg [],dr 11 1 [.none,(.pv (vB neg)),.none,(.pv (vB neg1)),.none,.none,(.pv (wordsPV mag)),.none,(.pv (wordsPV mag1)),(.pv (wordsPV tim)),(.pv who.pv)]]) (cj h1 (cj h2 (cj h3 (cj h4 (cj h5 (cj h6 True.intro)))))) (by kernel_rfl))
end integer_Mul
namespace integer_Of
theorem e0(n:Int)(m m1:Nat)(w:UInt32)(z:Nat)(w1:UInt32)(who:AWhole)(h1:n%18446744073709551616=(m:Int))(h2:n<0)(h3:(0-(m:Int))%18446744073709551616=(m1:Int))(h4:m1%4294967296=w.toNat)(h5:m1/2^(min 32 64)=z)(h6:z%4294967296=w1.toNat)(h7:Contract prg 108 [(vB (decide (n<0))),(wordsPV [w,w1])] who.pv):Contract prg 69 [(vI n)] who.pv :=
 Contract.ofL Tryz.func69 (by kernel_rfl) (L.done mixed tabOk (n:=93) (ns:=[1,1,1,1,1,1,3,1]) (tr:=[.reg [],.reg [.none,(iU m)],.reg [],.dec true,.reg [.none,(iU m1)],.reg [.none,.none,.none,(iW w),.none,(iU z),(iW w1),(.slc 0 0 (([w,w1]:List UInt32).map wordPV)),(.pv who.pv)]]) (cj (cv_u64 h1) (cj (dlt_t h2) (cj (us_neg_u64 h3) (cj (cv_u32N h4) (cj (bs_shr_u64 (k := .u64) h5) (cj (cv_u32N h6) (cj (o_bs sz_word ([w,w1]:List UInt32)) (cj h7 True.intro)))))))) (by kernel_rfl))
theorem e1(n:Int)(m:Nat)(w:UInt32)(z:Nat)(w1:UInt32)(who:AWhole)(h1:n%18446744073709551616=(m:Int))(h2:0≤n)(h3:m%4294967296=w.toNat)(h4:m/2^(min 32 64)=z)(h5:z%4294967296=w1.toNat)(h6:Contract prg 108 [(vB (decide (n<0))),(wordsPV [w,w1])] who.pv):Contract prg 69 [(vI n)] who.pv :=
 Contract.ofL Tryz.func69 (by kernel_rfl) (L.done mixed tabOk (n:=93) (ns:=[1,1,1,1,1,3,1]) (tr:=[.reg [],.reg [.none,(iU m)],.reg [],.dec false,.reg [.none,.none,.none,(iW w),.none,(iU z),(iW w1),(.slc 0 0 (([w,w1]:List UInt32).map wordPV)),(.pv who.pv)]]) (cj (cv_u64 h1) (cj (dlt_f h2) (cj (cv_u32N h3) (cj (bs_shr_u64 (k := .u64) h4) (cj (cv_u32N h5) (cj (o_bs sz_word ([w,w1]:List UInt32)) (cj h6 True.intro))))))) (by kernel_rfl))
end integer_Of
namespace integer_Sign
theorem e0(a:AWhole)(mag:List UInt32)(h1:Contract prg 110 [a.pv] (wordsPV mag))(h2:mag.length=0):Contract prg 72 [a.pv] (vI 0) :=
 Contract.ofL Tryz.func72 (by kernel_rfl) (L.done mixed tabOk (n:=87) (ns:=[1,1,1]) (tr:=[.reg [],.reg [.none,(.pv (wordsPV mag)),(iI (mag.length:Int))],.dec true,.reg []]) (cj h1 (cj (o_len wordPV mag) (cj (deqN_t h2) True.intro))) (by kernel_rfl))
theorem e1(a:AWhole)(mag:List UInt32)(h1:Contract prg 110 [a.pv] (wordsPV mag))(h2:mag.length≠0)(h3:a.neg=true):Contract prg 72 [a.pv] (vI (-1)) :=
 Contract.ofL Tryz.func72 (by kernel_rfl) (L.done mixed tabOk (n:=96) (ns:=[1,1,1,1]) (tr:=[.reg [],.reg [.none,(.pv (wordsPV mag)),(iI (mag.length:Int))],.dec false,.reg [],.dec true,.reg []]) (cj h1 (cj (o_len wordPV mag) (cj (deqN_f h2) (cj h3 True.intro)))) (by kernel_rfl))
theorem e2(a:AWhole)(mag:List UInt32)(h1:Contract prg 110 [a.pv] (wordsPV mag))(h2:mag.length≠0)(h3:a.neg=false):Contract prg 72 [a.pv] (vI 1) :=
 Contract.ofL Tryz.func72 (by kernel_rfl) (L.done mixed tabOk (n:=102) (ns:=[1,1,1,1]) (tr:=[.reg [],.reg [.none,(.pv (wordsPV mag)),(iI (mag.length:Int))],.dec false,.reg [],.dec false,.reg []]) (cj h1 (cj (o_len wordPV mag) (cj (deqN_f h2) (cj h3 True.intro)))) (by kernel_rfl))
end integer_Sign
namespace integer_Text
@[reducible] noncomputable def fn:Func:=Tryz.f94
noncomputable def atK1:List Itm:=focus [0,2,0,2,0,0,2,1,2,0,2,0,0,0] [.code (bodyOf fn)]
def inv1(m_3:List UInt32)(parts_4:List ByteArray)(a:AWhole):St:=⟨[(1,(.ptr 1 0)),(3,(.pv (wordsPV m_3))),(4,(.pv (lpv strCell parts_4)))],[(1,(.lit [(eB a.neg),(.pv (wordsPV a.mag))]))]⟩
@[reducible] noncomputable def Loop1(m_3:List UInt32)(parts_4:List ByteArray)(a:AWhole)(r:PV):Prop:=L prg fn atK1 (inv1 m_3 parts_4 a) r
theorem e0(a:AWhole)(mag:List UInt32)(h1:Contract prg 110 [a.pv] (wordsPV mag))(h2:mag.length=0):Contract prg 94 [a.pv] (.str (ByteArray.mk #[48])) :=
 Contract.ofL Tryz.func94 (by kernel_rfl) (L.done mixed tabOk (n:=90) (ns:=[1,1,1]) (tr:=[.reg [],.reg [.none,(.pv (wordsPV mag))],.reg [.none,(iI (mag.length:Int))],.dec true,.reg []]) (cj h1 (cj (o_len wordPV mag) (cj (deqN_t h2) True.intro))) (by kernel_rfl))
theorem e1(a:AWhole)(mag:List UInt32){r:PV}(h1:Contract prg 110 [a.pv] (wordsPV mag))(h2:mag.length≠0)(hL:Loop1 mag [] a r):Contract prg 94 [a.pv] r :=
 Contract.ofL Tryz.func94 (by kernel_rfl) (L.go mixed tabOk (n:=102) (ns:=[1,1,1]) (tr:=[.reg [],.reg [.none,(.pv (wordsPV mag))],.reg [.none,(iI (mag.length:Int))],.dec false,.reg [],.keep [1,3,4]]) (cj h1 (cj (o_len wordPV mag) (cj (deqN_f h2) True.intro))) (by kernel_rfl) hL)
theorem l11(m_3:List UInt32)(parts_4:List ByteArray)(a:AWhole)(sho:List UInt32)(sho1:UInt32)(ito:ByteArray){r:PV}(h1:0<m_3.length)(h2:Contract prg 129 [(wordsPV m_3),(vW (1000000000:UInt32))] (.tup [(wordsPV sho),(vW sho1)]))(h3:Contract prg 130 [(vI (sho1.toNat:Int))] (.str ito))(h4:sho.length≤0)(h5:(([ito]++parts_4):List ByteArray).length*16≤140737488355328)(hL:Loop1 sho ([ito]++parts_4) a r):Loop1 m_3 parts_4 a r :=
 L.go mixed tabOk (n:=162) (ns:=[1,1,1,1,1,1,1,6,3]) (tr:=[.auto,.reg [.none,(iI (m_3.length:Int))],.dec true,.reg [],.reg [.none,(.pv (.tup [(wordsPV sho),(vW sho1)]))],.reg [.none,(iI (sho1.toNat:Int)),(.pv (.str ito))],.reg [.none,(iI (sho.length:Int))],.dec false,.reg [.none,.none,.none,(.app (([ito]++parts_4):List ByteArray).length ((([ito]++parts_4):List ByteArray).map strCell).flatten)],.frzT 4 ((([ito]++parts_4):List ByteArray).map strCell),.keep [1,3,4]]) (cj (o_len wordPV m_3) (cj (dltN_t h1) (cj h2 (cj (cv_wi sho1) (cj h3 (cj (o_len wordPV sho) (cj (dltN_f h4) (cj (o_appL sz_str ([ito]:List ByteArray) (parts_4:List ByteArray) 16 (Eq.refl ([ito]:List ByteArray).length) h5 rfl) (cj (o_frz sz_str (([ito]++parts_4):List ByteArray) (Eq.refl (([ito]++parts_4):List ByteArray).length)) True.intro))))))))) (by kernel_rfl) hL
theorem l12(m_3:List UInt32)(parts_4:List ByteArray)(a:AWhole)(joi:ByteArray)(neg:Bool)(h1:m_3.length≤0)(h2:Contract prg 132 [(lpv strCell parts_4),(.str (ByteArray.mk #[]))] (.str joi))(h3:Contract prg 109 [a.pv] (vB neg))(h4:neg=true)(h5:(ByteArray.mk #[45]).size+joi.size<9223372036854775808):Loop1 m_3 parts_4 a (.str ((ByteArray.mk #[45])++joi)) :=
 L.done mixed tabOk (n:=156) (ns:=[1,1,1,1,1,1]) (tr:=[.auto,.reg [.none,(iI (m_3.length:Int))],.dec false,.reg [.none,(.pv (.str joi))],.reg [.none,(.pv (vB neg))],.dec true,.reg [.none,(.pv (.str ((ByteArray.mk #[45])++joi)))],.reg []]) (cj (o_len wordPV m_3) (cj (dltN_f h1) (cj h2 (cj h3 (cj h4 (cj (bs_sadd h5) True.intro)))))) (by kernel_rfl)
theorem l13(m_3:List UInt32)(parts_4:List ByteArray)(a:AWhole)(joi:ByteArray)(neg:Bool)(h1:m_3.length≤0)(h2:Contract prg 132 [(lpv strCell parts_4),(.str (ByteArray.mk #[]))] (.str joi))(h3:Contract prg 109 [a.pv] (vB neg))(h4:neg=false):Loop1 m_3 parts_4 a (.str joi) :=
 L.done mixed tabOk (n:=156) (ns:=[1,1,1,1,1]) (tr:=[.auto,.reg [.none,(iI (m_3.length:Int))],.dec false,.reg [.none,(.pv (.str joi))],.reg [.none,(.pv (vB neg))],.dec false,.reg []]) (cj (o_len wordPV m_3) (cj (dltN_f h1) (cj h2 (cj h3 (cj h4 True.intro))))) (by kernel_rfl)
end integer_Text
namespace integer_Gcd
@[reducible] noncomputable def fn:Func:=Tryz.f106
noncomputable def atK1:List Itm:=focus [0,2,0,2,0,0,0] [.code (bodyOf fn)]
def inv1(x_5 y_6:List UInt32):St:=⟨[(4,(.ptr 4 0)),(5,(.pv (wordsPV x_5))),(6,(.pv (wordsPV y_6)))],[(4,(.lit [(eB false),(.pv (.list []))]))]⟩
@[reducible] noncomputable def Loop1(x_5 y_6:List UInt32)(r:PV):Prop:=L prg fn atK1 (inv1 x_5 y_6) r
theorem e0(a b:AWhole)(mag mag1:List UInt32){r:PV}(h1:Contract prg 110 [a.pv] (wordsPV mag))(h2:Contract prg 110 [b.pv] (wordsPV mag1))(hL:Loop1 mag mag1 r):Contract prg 106 [a.pv,b.pv] r :=
 Contract.ofL Tryz.func106 (by kernel_rfl) (L.go mixed tabOk (n:=81) (ns:=[1,1]) (tr:=[.reg [],dr 4 2 [.none,(.pv (wordsPV mag)),.none,(.pv (wordsPV mag1))],.keep [4,5,6],.drop [3,2]]) (cj h1 (cj h2 True.intro)) (by kernel_rfl) hL)
theorem l10(x_5 y_6 div div1:List UInt32){r:PV}(h1:0<y_6.length)(h2:Contract prg 138 [(wordsPV x_5),(wordsPV y_6)] (.tup [(wordsPV div),(wordsPV div1)]))(hL:Loop1 y_6 div1 r):Loop1 x_5 y_6 r :=
 L.go mixed tabOk (n:=114) (ns:=[1,1,1]) (tr:=[.auto,.reg [.none,(iI (y_6.length:Int))],.dec true,.reg [.none,.none,(.pv (.tup [(wordsPV div),(wordsPV div1)]))],.reg [],.keep [4,5,6]]) (cj (o_len wordPV y_6) (cj (dltN_t h1) (cj h2 True.intro))) (by kernel_rfl) hL
theorem l11(x_5 y_6:List UInt32)(who:AWhole)(h1:y_6.length≤0)(h2:Contract prg 108 [(vB false),(wordsPV x_5)] who.pv):Loop1 x_5 y_6 who.pv :=
 L.done mixed tabOk (n:=114) (ns:=[1,1,1]) (tr:=[.auto,.reg [.none,(iI (y_6.length:Int))],.dec false,.reg [.none,(.pv who.pv)]]) (cj (o_len wordPV y_6) (cj (dltN_f h1) (cj h2 True.intro))) (by kernel_rfl)
end integer_Gcd
namespace integer_Div
theorem e1(a b:AWhole)(mag mag1 div div1:List UInt32)(neg:Bool)(plu les:List UInt32)(neg1 neg2:Bool)(who who1:AWhole)(h1:Contract prg 110 [b.pv] (wordsPV mag))(h2:mag.length≠0)(h3:Contract prg 110 [a.pv] (wordsPV mag1))(h4:Contract prg 138 [(wordsPV mag1),(wordsPV mag)] (.tup [(wordsPV div),(wordsPV div1)]))(h5:Contract prg 109 [a.pv] (vB neg))(h6:neg=true)(h7:0<div1.length)(h8:Contract prg 139 [(wordsPV div),(wordsPV [(1:UInt32)])] (wordsPV plu))(h9:Contract prg 140 [(wordsPV mag),(wordsPV div1)] (wordsPV les))(h10:Contract prg 109 [a.pv] (vB neg1))(h11:Contract prg 109 [b.pv] (vB neg2))(h12:Contract prg 108 [(vB (!(neg1==neg2))),(wordsPV plu)] who.pv)(h13:Contract prg 108 [(vB false),(wordsPV les)] who1.pv):Contract prg 107 [a.pv,b.pv] (.tup [who.pv,who1.pv,.nilI]) :=
 Contract.ofL Tryz.func107 (by kernel_rfl) (L.done mixed tabOk (n:=114) (ns:=[1,1,1,1,1,1,1,1,1,1,1,1,3,1,1,1,1,1,1]) (tr:=[.reg [],.reg [.none,(.pv (wordsPV mag))],.reg [.none,(iI (mag.length:Int))],.dec false,.reg [.none,(.pv (wordsPV mag1)),.none,(.pv (.tup [(wordsPV div),(wordsPV div1)]))],.reg [.none,(.pv (vB neg)),.none,.none,(iI (div1.length:Int)),.none,(.dec true)],.dec true,.reg [.none,(.slc 0 0 (([(1:UInt32)]:List UInt32).map wordPV)),(.pv (wordsPV plu)),.none,.none,(.pv (wordsPV les))],dr 9 3 [.none,(.pv (vB neg1)),.none,(.pv (vB neg2)),.none,.none,(.pv who.pv),.none,(.pv who1.pv)]]) (cj h1 (cj (o_len wordPV mag) (cj (deqN_f h2) (cj h3 (cj h4 (cj h5 (cj h6 (cj h6 (cj (o_len wordPV div1) (cj h6 (cj h6 (cj (dltN_t h7) (cj (o_bs sz_word ([(1:UInt32)]:List UInt32)) (cj h8 (cj h9 (cj h10 (cj h11 (cj h12 (cj h13 True.intro))))))))))))))))))) (by kernel_rfl))
theorem e2(a b:AWhole)(mag mag1 div div1:List UInt32)(neg neg1 neg2:Bool)(who who1:AWhole)(h1:Contract prg 110 [b.pv] (wordsPV mag))(h2:mag.length≠0)(h3:Contract prg 110 [a.pv] (wordsPV mag1))(h4:Contract prg 138 [(wordsPV mag1),(wordsPV mag)] (.tup [(wordsPV div),(wordsPV div1)]))(h5:Contract prg 109 [a.pv] (vB neg))(h6:neg=true)(h7:div1.length≤0)(h8:Contract prg 109 [a.pv] (vB neg1))(h9:Contract prg 109 [b.pv] (vB neg2))(h10:Contract prg 108 [(vB (!(neg1==neg2))),(wordsPV div)] who.pv)(h11:Contract prg 108 [(vB false),(wordsPV div1)] who1.pv):Contract prg 107 [a.pv,b.pv] (.tup [who.pv,who1.pv,.nilI]) :=
 Contract.ofL Tryz.func107 (by kernel_rfl) (L.done mixed tabOk (n:=114) (ns:=[1,1,1,1,1,1,1,1,1,1,1,1,1,1,1,1]) (tr:=[.reg [],.reg [.none,(.pv (wordsPV mag))],.reg [.none,(iI (mag.length:Int))],.dec false,.reg [.none,(.pv (wordsPV mag1)),.none,(.pv (.tup [(wordsPV div),(wordsPV div1)]))],.reg [.none,(.pv (vB neg)),.none,.none,(iI (div1.length:Int)),.none,(.dec true)],.dec false,dr 9 3 [.none,(.pv (vB neg1)),.none,(.pv (vB neg2)),.none,.none,(.pv who.pv),.none,(.pv who1.pv)]]) (cj h1 (cj (o_len wordPV mag) (cj (deqN_f h2) (cj h3 (cj h4 (cj h5 (cj h6 (cj h6 (cj (o_len wordPV div1) (cj h6 (cj h6 (cj (dltN_f h7) (cj h8 (cj h9 (cj h10 (cj h11 True.intro)))))))))))))))) (by kernel_rfl))
theorem e3(a b:AWhole)(mag mag1 div div1:List UInt32)(neg neg1 neg2:Bool)(who who1:AWhole)(h1:Contract prg 110 [b.pv] (wordsPV mag))(h2:mag.length≠0)(h3:Contract prg 110 [a.pv] (wordsPV mag1))(h4:Contract prg 138 [(wordsPV mag1),(wordsPV mag)] (.tup [(wordsPV div),(wordsPV div1)]))(h5:Contract prg 109 [a.pv] (vB neg))(h6:neg=false)(h7:Contract prg 109 [a.pv] (vB neg1))(h8:Contract prg 109 [b.pv] (vB neg2))(h9:Contract prg 108 [(vB (!(neg1==neg2))),(wordsPV div)] who.pv)(h10:Contract prg 108 [(vB false),(wordsPV div1)] who1.pv):Contract prg 107 [a.pv,b.pv] (.tup [who.pv,who1.pv,.nilI]) :=
 Contract.ofL Tryz.func107 (by kernel_rfl) (L.done mixed tabOk (n:=114) (ns:=[1,1,1,1,1,1,1,1,1,1,1,1,1,1]) (tr:=[.reg [],.reg [.none,(.pv (wordsPV mag))],.reg [.none,(iI (mag.length:Int))],.dec false,.reg [.none,(.pv (wordsPV mag1)),.none,(.pv (.tup [(wordsPV div),(wordsPV div1)]))],.reg [.none,(.pv (vB neg)),.none,.skip,.skip,.skip,(.dec false)],.auto,dr 9 3 [.none,(.pv (vB neg1)),.none,(.pv (vB neg2)),.none,.none,(.pv who.pv),.none,(.pv who1.pv)]]) (cj h1 (cj (o_len wordPV mag) (cj (deqN_f h2) (cj h3 (cj h4 (cj h5 (cj h6 (cj h6 (cj h6 (cj h6 (cj h7 (cj h8 (cj h9 (cj h10 True.intro)))))))))))))) (by kernel_rfl))
end integer_Div
namespace integer_whole
theorem e0(neg:Bool)(m tri:List UInt32)(h1:Contract prg 141 [(wordsPV m)] (wordsPV tri))(h2:neg=true):Contract prg 108 [(vB neg),(wordsPV m)] ((⟨(decide ((tri.length:Int)>0)),tri⟩:AWhole).pv) :=
 Contract.ofL Tryz.func108 (by kernel_rfl) (L.done mixed tabOk (n:=78) (ns:=[1,1,1,1,1,1]) (tr:=[.reg [],.reg [.none,(.pv (wordsPV tri))],.reg [.none,.none,.none,(iI (tri.length:Int)),.none,(.dec true)]]) (cj h1 (cj h2 (cj h2 (cj (o_len wordPV tri) (cj h2 (cj h2 True.intro)))))) (by kernel_rfl))
theorem e1(neg:Bool)(m tri:List UInt32)(h1:Contract prg 141 [(wordsPV m)] (wordsPV tri))(h2:neg=false):Contract prg 108 [(vB neg),(wordsPV m)] ((⟨false,tri⟩:AWhole).pv) :=
 Contract.ofL Tryz.func108 (by kernel_rfl) (L.done mixed tabOk (n:=78) (ns:=[1,1,1,1,1]) (tr:=[.reg [],.reg [.none,(.pv (wordsPV tri))],.reg [.none,.none,.skip,.skip,.skip,(.dec false)]]) (cj h1 (cj h2 (cj h2 (cj h2 (cj h2 True.intro))))) (by kernel_rfl))
end integer_whole
namespace integer_neg
theorem e0(a:AWhole)(val:Bool)(h1:Contract prg 133 [a.pv] (vB val))(h2:val=true):Contract prg 109 [a.pv] (vB a.neg) :=
 Contract.ofL Tryz.func109 (by kernel_rfl) (L.done mixed tabOk (n:=72) (ns:=[1,1,1,1]) (tr:=[.reg [],.reg [.none,(.pv (vB val)),.none,.none,.none,(.dec true)]]) (cj h1 (cj h2 (cj h2 (cj h2 True.intro)))) (by kernel_rfl))
theorem e1(a:AWhole)(val:Bool)(h1:Contract prg 133 [a.pv] (vB val))(h2:val=false):Contract prg 109 [a.pv] (vB false) :=
 Contract.ofL Tryz.func109 (by kernel_rfl) (L.done mixed tabOk (n:=72) (ns:=[1,1,1,1]) (tr:=[.reg [],.reg [.none,(.pv (vB val)),.none,.skip,.skip,(.dec false)]]) (cj h1 (cj h2 (cj h2 (cj h2 True.intro)))) (by kernel_rfl))
end integer_neg
namespace integer_mag
theorem e0(a:AWhole)(val:Bool)(h1:Contract prg 133 [a.pv] (vB val))(h2:val=false):Contract prg 110 [a.pv] (wordsPV []) :=
 Contract.ofL Tryz.func110 (by kernel_rfl) (L.done mixed tabOk (n:=84) (ns:=[1,1]) (tr:=[.reg [],.reg [.none,(.pv (vB val))],.dec true,.reg []]) (cj h1 (cj (bnot_t h2) True.intro)) (by kernel_rfl))
theorem e1(a:AWhole)(val:Bool)(h1:Contract prg 133 [a.pv] (vB val))(h2:val=true):Contract prg 110 [a.pv] (wordsPV a.mag) :=
 Contract.ofL Tryz.func110 (by kernel_rfl) (L.done mixed tabOk (n:=87) (ns:=[1,1]) (tr:=[.reg [],.reg [.none,(.pv (vB val))],.dec false,.reg []]) (cj h1 (cj (bnot_f h2) True.intro)) (by kernel_rfl))
end integer_mag
namespace integer_compare
@[reducible] noncomputable def fn:Func:=Tryz.f111
noncomputable def atK1:List Itm:=focus [0,2,0,0,2,1,2,0,0,2,0,0] [.code (bodyOf fn)]
def inv1(a b:List UInt32)(i_5:Int):St:=⟨[(0,(.pv (wordsPV a))),(1,(.pv (wordsPV b))),(5,(eI i_5))],[]⟩
@[reducible] noncomputable def Loop1(a b:List UInt32)(i_5:Int)(r:PV):Prop:=L prg fn atK1 (inv1 a b i_5) r
theorem e0(a b:List UInt32)(h1:a.length≠b.length)(h2:a.length<b.length):Contract prg 111 [(wordsPV a),(wordsPV b)] (vI (-1)) :=
 Contract.ofL Tryz.func111 (by kernel_rfl) (L.done mixed tabOk (n:=96) (ns:=[1,1,1,1,1,1]) (tr:=[.reg [],.reg [.none,(iI (a.length:Int)),.none,(iI (b.length:Int))],.dec true,.reg [.none,(iI (a.length:Int)),.none,(iI (b.length:Int))],.dec true,.reg []]) (cj (o_len wordPV a) (cj (o_len wordPV b) (cj (dneN_t h1) (cj (o_len wordPV a) (cj (o_len wordPV b) (cj (dltN_t h2) True.intro)))))) (by kernel_rfl))
theorem e1(a b:List UInt32)(h1:a.length≠b.length)(h2:b.length≤a.length):Contract prg 111 [(wordsPV a),(wordsPV b)] (vI 1) :=
 Contract.ofL Tryz.func111 (by kernel_rfl) (L.done mixed tabOk (n:=99) (ns:=[1,1,1,1,1,1]) (tr:=[.reg [],.reg [.none,(iI (a.length:Int)),.none,(iI (b.length:Int))],.dec true,.reg [.none,(iI (a.length:Int)),.none,(iI (b.length:Int))],.dec false,.reg []]) (cj (o_len wordPV a) (cj (o_len wordPV b) (cj (dneN_t h1) (cj (o_len wordPV a) (cj (o_len wordPV b) (cj (dltN_f h2) True.intro)))))) (by kernel_rfl))
theorem e2(a b:List UInt32){r:PV}(h1:a.length=b.length)(h2:InI64 ((a.length:Int)-1))(hL:Loop1 a b ((a.length:Int)-1) r):Contract prg 111 [(wordsPV a),(wordsPV b)] r :=
 Contract.ofL Tryz.func111 (by kernel_rfl) (L.go mixed tabOk (n:=96) (ns:=[1,1,1,1,1]) (tr:=[.reg [],.reg [.none,(iI (a.length:Int)),.none,(iI (b.length:Int))],.dec false,.reg [.none,(iI (a.length:Int)),(iI ((a.length:Int)-1))],.keep [0,1,5]]) (cj (o_len wordPV a) (cj (o_len wordPV b) (cj (dneN_f h1) (cj (o_len wordPV a) (cj (bs_sub h2) True.intro))))) (by kernel_rfl) hL)
theorem l10(a b:List UInt32)(i_5:Int)(k:Nat)(v:UInt32)(k1:Nat)(v1:UInt32)(k2:Nat)(v2:UInt32)(k3:Nat)(v3:UInt32)(h1:0≤i_5)(h2:i_5=(k:Int))(h3:a[k]? = some v)(h4:i_5=(k1:Int))(h5:b[k1]? = some v1)(h6:v.toNat≠v1.toNat)(h7:i_5=(k2:Int))(h8:a[k2]? = some v2)(h9:i_5=(k3:Int))(h10:b[k3]? = some v3)(h11:v2.toNat<v3.toNat):Loop1 a b i_5 (vI (-1)) :=
 L.done mixed tabOk (n:=147) (ns:=[1,3,3,1,3,3,1]) (tr:=[.auto,.reg [],.dec true,dr 9 0 [.none,.none,(.row k (wordPV v)),.none,.none,.none,(.row k1 (wordPV v1))],.dec true,dr 9 0 [.none,.none,(.row k2 (wordPV v2)),.none,.none,.none,(.row k3 (wordPV v3))],.dec true,.reg []]) (cj (dle_t h1) (cj (o_at wordPV h2 h3) (cj (o_at wordPV h4 h5) (cj (dneN_t h6) (cj (o_at wordPV h7 h8) (cj (o_at wordPV h9 h10) (cj (dltN_t h11) True.intro))))))) (by kernel_rfl)
theorem l11(a b:List UInt32)(i_5:Int)(k:Nat)(v:UInt32)(k1:Nat)(v1:UInt32)(k2:Nat)(v2:UInt32)(k3:Nat)(v3:UInt32)(h1:0≤i_5)(h2:i_5=(k:Int))(h3:a[k]? = some v)(h4:i_5=(k1:Int))(h5:b[k1]? = some v1)(h6:v.toNat≠v1.toNat)(h7:i_5=(k2:Int))(h8:a[k2]? = some v2)(h9:i_5=(k3:Int))(h10:b[k3]? = some v3)(h11:v3.toNat≤v2.toNat):Loop1 a b i_5 (vI 1) :=
 L.done mixed tabOk (n:=150) (ns:=[1,3,3,1,3,3,1]) (tr:=[.auto,.reg [],.dec true,dr 9 0 [.none,.none,(.row k (wordPV v)),.none,.none,.none,(.row k1 (wordPV v1))],.dec true,dr 9 0 [.none,.none,(.row k2 (wordPV v2)),.none,.none,.none,(.row k3 (wordPV v3))],.dec false,.reg []]) (cj (dle_t h1) (cj (o_at wordPV h2 h3) (cj (o_at wordPV h4 h5) (cj (dneN_t h6) (cj (o_at wordPV h7 h8) (cj (o_at wordPV h9 h10) (cj (dltN_f h11) True.intro))))))) (by kernel_rfl)
theorem l12(a b:List UInt32)(i_5:Int)(k:Nat)(v:UInt32)(k1:Nat)(v1:UInt32){r:PV}(h1:0≤i_5)(h2:i_5=(k:Int))(h3:a[k]? = some v)(h4:i_5=(k1:Int))(h5:b[k1]? = some v1)(h6:v.toNat=v1.toNat)(h7:InI64 (i_5-1))(hL:Loop1 a b (i_5-1) r):Loop1 a b i_5 r :=
 L.go mixed tabOk (n:=138) (ns:=[1,3,3,1,1]) (tr:=[.auto,.reg [],.dec true,dr 9 0 [.none,.none,(.row k (wordPV v)),.none,.none,.none,(.row k1 (wordPV v1))],.dec false,.reg [.none,(iI (i_5-1))],.keep [0,1,5]]) (cj (dle_t h1) (cj (o_at wordPV h2 h3) (cj (o_at wordPV h4 h5) (cj (dneN_f h6) (cj (bs_sub h7) True.intro))))) (by kernel_rfl) hL
theorem l13(a b:List UInt32)(i_5:Int)(h1:i_5<0):Loop1 a b i_5 (vI 0) :=
 L.done mixed tabOk (n:=129) (ns:=[1]) (tr:=[.auto,.reg [],.dec false,.reg []]) (cj (dle_f h1) True.intro) (by kernel_rfl)
end integer_compare
namespace integer_times
@[reducible] noncomputable def fn:Func:=Tryz.f112
noncomputable def atK1:List Itm:=focus [0,2,0,2,0,0,2,0,0] [.code (bodyOf fn)]
def inv1(b a:List UInt32)(t_19:Nat)(site_16:List UInt32):St:=⟨[(1,(.pv (wordsPV b))),(5,(.row 16 0 (a.length+b.length) 1)),(17,(.pv (wordsPV a))),(18,(eI (a.length:Int))),(19,(eI (t_19:Int)))],[(16,(.pure ((site_16:List UInt32).map wordPV).flatten))]⟩
@[reducible] noncomputable def Loop1(b a:List UInt32)(t_19:Nat)(site_16:List UInt32)(r:PV):Prop:=L prg fn atK1 (inv1 b a t_19 site_16) r
noncomputable def atK2:List Itm:=focus [0,2,0,2,0,0,2,0,0,0,0,2,0,0,2,0,0,0,2,0,2,0,0,2,0,0] [.code (bodyOf fn)]
def inv2(b a:List UInt32)(i_6:Nat)(v:UInt32)(carry_8 t_19 t_26:Nat)(site_16:List UInt32):St:=⟨[(1,(.pv (wordsPV b))),(5,(.row 16 0 (a.length+b.length) 1)),(6,(eI (i_6:Int))),(7,(eW v)),(8,(eU carry_8)),(17,(.pv (wordsPV a))),(18,(eI (a.length:Int))),(19,(eI (t_19:Int))),(24,(.pv (wordsPV b))),(25,(eI (b.length:Int))),(26,(eI (t_26:Int)))],[(16,(.pure ((site_16:List UInt32).map wordPV).flatten))]⟩
@[reducible] noncomputable def Loop2(b a:List UInt32)(i_6:Nat)(v:UInt32)(carry_8 t_19 t_26:Nat)(site_16:List UInt32)(r:PV):Prop:=L prg fn atK2 (inv2 b a i_6 v carry_8 t_19 t_26 site_16) r
theorem e0(a b:List UInt32){r:PV}(h1:(a.length+b.length)<9223372036854775808)(h2:4*(a.length+b.length)≤140737488355328)(hL:Loop1 b a 0 (List.replicate (a.length+b.length) (0:UInt32)) r):Contract prg 112 [(wordsPV a),(wordsPV b)] r :=
 Contract.ofL Tryz.func112 (by kernel_rfl) (L.go mixed tabOk (n:=87) (ns:=[1,1,1,5,1]) (tr:=[.reg [],.reg [.none,(iI (a.length:Int)),.none,(iI (b.length:Int)),(iI (((a.length+b.length):Nat):Int)),(.app (a.length+b.length) ((List.replicate (a.length+b.length) (0:UInt32):List UInt32).map wordPV).flatten)],.reg [.none,(iI (a.length:Int))],.keep [1,5,17,18,19]]) (cj (o_len wordPV a) (cj (o_len wordPV b) (cj (bs_addN h1) (cj (o_mk wordPV 0 4 (a.length+b.length) (Eq.refl ((((a.length+b.length):Nat):Int):Int)) h2 rfl) (cj (o_len wordPV a) True.intro))))) (by kernel_rfl) hL)
theorem l10(b a:List UInt32)(t_19:Nat)(site_16:List UInt32)(v:UInt32){r:PV}(h1:t_19<a.length)(h2:a[t_19]? = some v)(hL:Loop2 b a t_19 v 0 t_19 0 site_16 r):Loop1 b a t_19 site_16 r :=
 L.go mixed tabOk (n:=138) (ns:=[1,3,1]) (tr:=[.auto,.reg [],.dec true,.reg [.none,(.row t_19 (wordPV v))],.reg [],.reg [.none,(iI (b.length:Int))],.keep [1,5,6,7,8,17,18,19,24,25,26]]) (cj (dltN_t h1) (cj (o_at wordPV (Eq.refl (((t_19:Nat):Int):Int)) h2) (cj (o_len wordPV b) True.intro))) (by kernel_rfl) hL
theorem l11(b a:List UInt32)(t_19:Nat)(site_16 tri:List UInt32)(h1:a.length≤t_19)(h2:(a.length+b.length)=site_16.length)(h3:Contract prg 141 [(wordsPV site_16)] (wordsPV tri)):Loop1 b a t_19 site_16 (wordsPV tri) :=
 L.done mixed tabOk (n:=120) (ns:=[1,3,1]) (tr:=[.auto,.reg [],.dec false,.frzT 5 ((site_16:List UInt32).map wordPV),.reg [.none,(.pv (wordsPV tri))]]) (cj (dltN_f h1) (cj (o_frz sz_word (site_16:List UInt32) h2) (cj h3 True.intro))) (by kernel_rfl)
theorem l20(b a:List UInt32)(i_6:Nat)(v:UInt32)(carry_8 t_19 t_26:Nat)(site_16:List UInt32)(v1:UInt32)(p:Nat)(v2:UInt32)(s s1:Nat)(w:UInt32)(z:Nat){r:PV}(h1:t_26<b.length)(h2:b[t_26]? = some v1)(h3:(v.toNat*v1.toNat)%18446744073709551616=p)(h4:(i_6+t_26)<9223372036854775808)(h5:(i_6+t_26)<(a.length+b.length))(h6:site_16[(i_6+t_26)]? = some v2)(h7:(p+v2.toNat)%18446744073709551616=s)(h8:(carry_8+s)%18446744073709551616=s1)(h9:s1%4294967296=w.toNat)(h10:(i_6+t_26)<site_16.length)(h11:s1/2^(min 32 64)=z)(h12:(t_26+1)<9223372036854775808)(hL:Loop2 b a i_6 v z t_19 (t_26+1) (site_16.set (i_6+t_26) w) r):Loop2 b a i_6 v carry_8 t_19 t_26 site_16 r :=
 L.go mixed tabOk (n:=189) (ns:=[1,3,1,1,1,1,2,1,1,1,1,1,1,2,2,1,1]) (tr:=[.auto,.reg [],.dec true,.reg [.none,(.row t_26 (wordPV v1))],.reg [.none,.none,(iU v.toNat),.none,(iU v1.toNat),(iU p),.none,.none,.none,(iI (((i_6+t_26):Nat):Int)),(.nat (i_6+t_26)),(.ev (.pv (vW v2))),(iU v2.toNat),(iU s),(iU s1)],.reg [.none,.none,.none,(iI (((i_6+t_26):Nat):Int)),.none,(iW w),(.nat (i_6+t_26)),(.cells (.pure (((site_16.set (i_6+t_26) w):List UInt32).map wordPV).flatten))],.reg [.none,(iU z)],.reg [(iI (((t_26+1):Nat):Int))],.keep [1,5,6,7,8,17,18,19,24,25,26]]) (cj (dltN_t h1) (cj (o_at wordPV (Eq.refl (((t_26:Nat):Int):Int)) h2) (cj (cv_w v) (cj (cv_w v1) (cj (bs_mul_u64 h3) (cj (bs_addN h4) (cj (cj (Eq.refl ((((i_6+t_26):Nat):Int):Int)) h5) (cj (o_get (enc:=wordPV) (f:=fun a=>(vW a)) (fun _=>rfl) h6) (cj (cv_w v2) (cj (bs_add_u64 h7) (cj (bs_add_u64 h8) (cj (bs_addN h4) (cj (cv_u32N h9) (cj (cj (Eq.refl ((((i_6+t_26):Nat):Int):Int)) h5) (cj (o_set sz_word (site_16:List UInt32) w h10) (cj (bs_shr_u64 (k := .u64) h11) (cj (bs_addN h12) True.intro))))))))))))))))) (by kernel_rfl) hL
theorem l21(b a:List UInt32)(i_6:Nat)(v:UInt32)(carry_8 t_19 t_26:Nat)(site_16:List UInt32)(w:UInt32){r:PV}(h1:b.length≤t_26)(h2:(i_6+b.length)<9223372036854775808)(h3:carry_8%4294967296=w.toNat)(h4:(i_6+b.length)<(a.length+b.length))(h5:(i_6+b.length)<site_16.length)(h6:(t_19+1)<9223372036854775808)(hL:Loop1 b a (t_19+1) (site_16.set (i_6+b.length) w) r):Loop2 b a i_6 v carry_8 t_19 t_26 site_16 r :=
 L.go mixed tabOk (n:=174) (ns:=[1,1,1,1,2,2,1]) (tr:=[.auto,.reg [],.dec false,.reg [.none,.none,.none,(iI (b.length:Int)),(iI (((i_6+b.length):Nat):Int)),.none,(iW w),(.nat (i_6+b.length)),(.cells (.pure (((site_16.set (i_6+b.length) w):List UInt32).map wordPV).flatten))],.reg [(iI (((t_19+1):Nat):Int))],.keep [1,5,17,18,19]]) (cj (dltN_f h1) (cj (o_len wordPV b) (cj (bs_addN h2) (cj (cv_u32N h3) (cj (cj (Eq.refl ((((i_6+b.length):Nat):Int):Int)) h4) (cj (o_set sz_word (site_16:List UInt32) w h5) (cj (bs_addN h6) True.intro))))))) (by kernel_rfl) hL
end integer_times
namespace integer_Add
theorem e0(a b:AWhole)(mag mag1:List UInt32)(neg neg1 neg2:Bool)(plu:List UInt32)(who:AWhole)(h1:Contract prg 110 [a.pv] (wordsPV mag))(h2:Contract prg 110 [b.pv] (wordsPV mag1))(h3:Contract prg 109 [a.pv] (vB neg))(h4:Contract prg 109 [b.pv] (vB neg1))(h5:neg=neg1)(h6:Contract prg 109 [a.pv] (vB neg2))(h7:Contract prg 139 [(wordsPV mag),(wordsPV mag1)] (wordsPV plu))(h8:Contract prg 108 [(vB neg2),(wordsPV plu)] who.pv):Contract prg 117 [a.pv,b.pv] who.pv :=
 Contract.ofL Tryz.func117 (by kernel_rfl) (L.done mixed tabOk (n:=93) (ns:=[1,1,1,1,1,1,1,1]) (tr:=[.reg [],dr 4 2 [.none,(.pv (wordsPV mag)),.none,(.pv (wordsPV mag1))],dr 5 1 [.none,(.pv (vB neg)),.none,(.pv (vB neg1))],.dec true,.reg [.none,(.pv (vB neg2)),.none,.none,(.pv (wordsPV plu)),(.pv who.pv)]]) (cj h1 (cj h2 (cj h3 (cj h4 (cj (beq_t h5) (cj h6 (cj h7 (cj h8 True.intro)))))))) (by kernel_rfl))
theorem e1(a b:AWhole)(mag mag1:List UInt32)(neg neg1:Bool)(com:Int)(neg2:Bool)(les:List UInt32)(who:AWhole)(h1:Contract prg 110 [a.pv] (wordsPV mag))(h2:Contract prg 110 [b.pv] (wordsPV mag1))(h3:Contract prg 109 [a.pv] (vB neg))(h4:Contract prg 109 [b.pv] (vB neg1))(h5:neg≠neg1)(h6:Contract prg 111 [(wordsPV mag),(wordsPV mag1)] (vI com))(h7:0≤com)(h8:Contract prg 109 [a.pv] (vB neg2))(h9:Contract prg 140 [(wordsPV mag),(wordsPV mag1)] (wordsPV les))(h10:Contract prg 108 [(vB neg2),(wordsPV les)] who.pv):Contract prg 117 [a.pv,b.pv] who.pv :=
 Contract.ofL Tryz.func117 (by kernel_rfl) (L.done mixed tabOk (n:=102) (ns:=[1,1,1,1,1,1,1,1,1,1]) (tr:=[.reg [],dr 4 2 [.none,(.pv (wordsPV mag)),.none,(.pv (wordsPV mag1))],dr 5 1 [.none,(.pv (vB neg)),.none,(.pv (vB neg1))],.dec false,.reg [.none,.none,(.pv (vI com))],.dec true,.reg [.none,(.pv (vB neg2)),.none,.none,(.pv (wordsPV les)),(.pv who.pv)]]) (cj h1 (cj h2 (cj h3 (cj h4 (cj (beq_f h5) (cj h6 (cj (dle_t h7) (cj h8 (cj h9 (cj h10 True.intro)))))))))) (by kernel_rfl))
theorem e2(a b:AWhole)(mag mag1:List UInt32)(neg neg1:Bool)(com:Int)(neg2:Bool)(les:List UInt32)(who:AWhole)(h1:Contract prg 110 [a.pv] (wordsPV mag))(h2:Contract prg 110 [b.pv] (wordsPV mag1))(h3:Contract prg 109 [a.pv] (vB neg))(h4:Contract prg 109 [b.pv] (vB neg1))(h5:neg≠neg1)(h6:Contract prg 111 [(wordsPV mag),(wordsPV mag1)] (vI com))(h7:com<0)(h8:Contract prg 109 [b.pv] (vB neg2))(h9:Contract prg 140 [(wordsPV mag1),(wordsPV mag)] (wordsPV les))(h10:Contract prg 108 [(vB neg2),(wordsPV les)] who.pv):Contract prg 117 [a.pv,b.pv] who.pv :=
 Contract.ofL Tryz.func117 (by kernel_rfl) (L.done mixed tabOk (n:=108) (ns:=[1,1,1,1,1,1,1,1,1,1]) (tr:=[.reg [],dr 4 2 [.none,(.pv (wordsPV mag)),.none,(.pv (wordsPV mag1))],dr 5 1 [.none,(.pv (vB neg)),.none,(.pv (vB neg1))],.dec false,.reg [.none,.none,(.pv (vI com))],.dec false,.reg [.none,(.pv (vB neg2)),.none,.none,(.pv (wordsPV les)),(.pv who.pv)]]) (cj h1 (cj h2 (cj h3 (cj h4 (cj (beq_f h5) (cj h6 (cj (dle_f h7) (cj h8 (cj h9 (cj h10 True.intro)))))))))) (by kernel_rfl))
end integer_Add
namespace integer_short
@[reducible] noncomputable def fn:Func:=Tryz.f129
noncomputable def atK1:List Itm:=focus [0,2,0,2,0,2,0,0,2,0,0] [.code (bodyOf fn)]
def inv1(a:List UInt32)(b:UInt32)(rest_7:Nat)(i_8:Int)(site_11:List UInt32):St:=⟨[(0,(.pv (wordsPV a))),(1,(eW b)),(6,(.row 11 0 a.length 1)),(7,(eU rest_7)),(8,(eI i_8))],[(11,(.pure ((site_11:List UInt32).map wordPV).flatten))]⟩
@[reducible] noncomputable def Loop1(a:List UInt32)(b:UInt32)(rest_7:Nat)(i_8:Int)(site_11:List UInt32)(r:PV):Prop:=L prg fn atK1 (inv1 a b rest_7 i_8 site_11) r
theorem e0(a:List UInt32)(b:UInt32){r:PV}(h1:4*a.length≤140737488355328)(h2:InI64 ((a.length:Int)-1))(hL:Loop1 a b 0 ((a.length:Int)-1) (List.replicate a.length (0:UInt32)) r):Contract prg 129 [(wordsPV a),(vW b)] r :=
 Contract.ofL Tryz.func129 (by kernel_rfl) (L.go mixed tabOk (n:=93) (ns:=[1,5,1,1]) (tr:=[.reg [],.reg [.none,(iI (a.length:Int)),(.app a.length ((List.replicate a.length (0:UInt32):List UInt32).map wordPV).flatten)],.reg [],.reg [.none,(iI (a.length:Int)),(iI ((a.length:Int)-1))],.keep [0,1,6,7,8]]) (cj (o_len wordPV a) (cj (o_mk wordPV 0 4 a.length (Eq.refl (((a.length:Nat):Int):Int)) h1 rfl) (cj (o_len wordPV a) (cj (bs_sub h2) True.intro)))) (by kernel_rfl) hL)
theorem l10(a:List UInt32)(b:UInt32)(rest_7:Nat)(i_8:Int)(site_11:List UInt32)(z k:Nat)(v:UInt32)(z1 q:Nat)(w:UInt32)(k1 m:Nat){r:PV}(h1:0≤i_8)(h2:(rest_7*2^(min 32 64))%18446744073709551616=z)(h3:i_8=(k:Int))(h4:a[k]? = some v)(h5:(z%18446744073709551616) ||| (v.toNat%18446744073709551616)=z1)(h6:b.toNat≠0)(h7:(z1/b.toNat)%18446744073709551616=q)(h8:q%4294967296=w.toNat)(h9:i_8=(k1:Int))(h10:k1<a.length)(h11:k1<site_11.length)(h12:z1%b.toNat=m)(h13:InI64 (i_8-1))(hL:Loop1 a b m (i_8-1) (site_11.set k1 w) r):Loop1 a b rest_7 i_8 site_11 r :=
 L.go mixed tabOk (n:=138) (ns:=[1,1,3,1,1,1,1,1,2,2,1,1,1]) (tr:=[.auto,.reg [],.dec true,.reg [.none,(iU z),.none,.none,(.row k (wordPV v)),.none,(iU v.toNat),(iU z1)],.reg [.none,.none,.none,.none,(iU b.toNat),(iU q),(iW w),(.nat k1),(.cells (.pure (((site_11.set k1 w):List UInt32).map wordPV).flatten))],.reg [.none,.none,(iU b.toNat),(iU m)],.reg [.none,(iI (i_8-1))],.keep [0,1,6,7,8]]) (cj (dle_t h1) (cj (bs_shl_u64 (k := .u64) h2) (cj (o_at wordPV h3 h4) (cj (cv_w v) (cj (bs_or_u64 h5) (cj (cv_w b) (cj (bs_quo_u64 h6 h7) (cj (cv_u32N h8) (cj (cj h9 h10) (cj (o_set sz_word (site_11:List UInt32) w h11) (cj (cv_w b) (cj (bs_rem_u64 h6 h12) (cj (bs_sub h13) True.intro))))))))))))) (by kernel_rfl) hL
theorem l11(a:List UInt32)(b:UInt32)(rest_7:Nat)(i_8:Int)(site_11 tri:List UInt32)(w:UInt32)(h1:i_8<0)(h2:a.length=site_11.length)(h3:Contract prg 141 [(wordsPV site_11)] (wordsPV tri))(h4:rest_7%4294967296=w.toNat):Loop1 a b rest_7 i_8 site_11 (.tup [(wordsPV tri),(vW w)]) :=
 L.done mixed tabOk (n:=126) (ns:=[1,3,1,1]) (tr:=[.auto,.reg [],.dec false,.frzT 6 ((site_11:List UInt32).map wordPV),.reg [.none,(.pv (wordsPV tri)),.none,(iW w)]]) (cj (dle_f h1) (cj (o_frz sz_word (site_11:List UInt32) h2) (cj h3 (cj (cv_u32N h4) True.intro)))) (by kernel_rfl)
end integer_short
namespace integer_Valid
theorem e0(a:AWhole)(h1:a.mag.length=0):Contract prg 133 [a.pv] (vB (!a.neg)) :=
 Contract.ofL Tryz.func133 (by kernel_rfl) (L.done mixed tabOk (n:=84) (ns:=[1,1]) (tr:=[.reg [],.reg [.none,.none,(iI (a.mag.length:Int))],.dec true,.reg []]) (cj (o_len wordPV a.mag) (cj (deqN_t h1) True.intro)) (by kernel_rfl))
theorem e1(a:AWhole)(k:Nat)(v:UInt32)(h1:a.mag.length≠0)(h2:InI64 ((a.mag.length:Int)-1))(h3:((a.mag.length:Int)-1)=(k:Int))(h4:a.mag[k]? = some v):Contract prg 133 [a.pv] (vB ((v.toNat:Int) != 0)) :=
 Contract.ofL Tryz.func133 (by kernel_rfl) (L.done mixed tabOk (n:=87) (ns:=[1,1,1,1,3]) (tr:=[.reg [],.reg [.none,.none,(iI (a.mag.length:Int))],.dec false,.reg [.none,.none,.none,.none,(iI (a.mag.length:Int)),(iI ((a.mag.length:Int)-1)),(.row k (wordPV v))]]) (cj (o_len wordPV a.mag) (cj (deqN_f h1) (cj (o_len wordPV a.mag) (cj (bs_sub h2) (cj (o_at wordPV h3 h4) True.intro))))) (by kernel_rfl))
end integer_Valid
namespace integer_divide
@[reducible] noncomputable def fn:Func:=Tryz.f138
noncomputable def atK1:List Itm:=focus [0,2,0,0,2,1,2,0,0,2,1,2,0,2,0,2,0,2,0,2,0,0,2,0,0] [.code (bodyOf fn)]
def inv1(lea:Int)(up b:List UInt32)(n m:Nat)(v1 v2:UInt32)(j_14:Int)(site_55 site_61:List UInt32):St:=⟨[(8,(eI lea)),(9,(.pv (wordsPV (up.take b.length)))),(10,(.row 55 0 n 1)),(11,(.row 61 0 m 1)),(12,(eU v1.toNat)),(13,(eU v2.toNat)),(14,(eI j_14))],[(55,(.pure ((site_55:List UInt32).map wordPV).flatten)),(61,(.pure ((site_61:List UInt32).map wordPV).flatten))]⟩
@[reducible] noncomputable def Loop1(lea:Int)(up b:List UInt32)(n m:Nat)(v1 v2:UInt32)(j_14:Int)(site_55 site_61:List UInt32)(r:PV):Prop:=L prg fn atK1 (inv1 lea up b n m v1 v2 j_14 site_55 site_61) r
noncomputable def atK2:List Itm:=focus [0,2,0,0,2,1,2,0,0,2,1,2,0,2,0,2,0,2,0,2,0,0,2,0,0,0,0,0,2,0,2,0,0,0,2,0,2,0,2,0,0,0] [.code (bodyOf fn)]
def inv2(lea:Int)(up b:List UInt32)(n m:Nat)(v1 v2:UInt32)(j_14:Int)(l u guess_17 rest_18:Nat)(site_55 site_61:List UInt32):St:=⟨[(8,(eI lea)),(9,(.pv (wordsPV (up.take b.length)))),(10,(.row 55 0 n 1)),(11,(.row 61 0 m 1)),(12,(eU v1.toNat)),(13,(eU v2.toNat)),(14,(eI j_14)),(15,(.row 55 (0+l*1) (u-l) 1)),(17,(eU guess_17)),(18,(eU rest_18))],[(55,(.pure ((site_55:List UInt32).map wordPV).flatten)),(61,(.pure ((site_61:List UInt32).map wordPV).flatten))]⟩
@[reducible] noncomputable def Loop2(lea:Int)(up b:List UInt32)(n m:Nat)(v1 v2:UInt32)(j_14:Int)(l u guess_17 rest_18:Nat)(site_55 site_61:List UInt32)(r:PV):Prop:=L prg fn atK2 (inv2 lea up b n m v1 v2 j_14 l u guess_17 rest_18 site_55 site_61) r
theorem e0(a b:List UInt32)(com:Int)(tri:List UInt32)(h1:Contract prg 111 [(wordsPV a),(wordsPV b)] (vI com))(h2:com<0)(h3:Contract prg 141 [(wordsPV a)] (wordsPV tri)):Contract prg 138 [(wordsPV a),(wordsPV b)] (.tup [(wordsPV []),(wordsPV tri)]) :=
 Contract.ofL Tryz.func138 (by kernel_rfl) (L.done mixed tabOk (n:=84) (ns:=[1,1,1]) (tr:=[.reg [],.reg [.none,.none,(.pv (vI com))],.dec true,.reg [.none,(.pv (wordsPV tri))]]) (cj h1 (cj (dlt_t h2) (cj h3 True.intro))) (by kernel_rfl))
theorem e1(a b:List UInt32)(com:Int)(v:UInt32)(sho:List UInt32)(sho1:UInt32)(tri:List UInt32)(h1:Contract prg 111 [(wordsPV a),(wordsPV b)] (vI com))(h2:0≤com)(h3:b.length=1)(h4:b[0]? = some v)(h5:Contract prg 129 [(wordsPV a),(vW v)] (.tup [(wordsPV sho),(vW sho1)]))(h6:Contract prg 141 [(wordsPV [sho1])] (wordsPV tri)):Contract prg 138 [(wordsPV a),(wordsPV b)] (.tup [(wordsPV sho),(wordsPV tri)]) :=
 Contract.ofL Tryz.func138 (by kernel_rfl) (L.done mixed tabOk (n:=105) (ns:=[1,1,1,1,3,1,3,1]) (tr:=[.reg [],.reg [.none,.none,(.pv (vI com))],.dec false,.reg [.none,(iI (b.length:Int))],.dec true,.reg [.none,.none,(.row 0 (wordPV v)),.none,(.pv (.tup [(wordsPV sho),(vW sho1)]))],.reg [.none,.none,(.slc 0 0 (([sho1]:List UInt32).map wordPV)),(.pv (wordsPV tri))]]) (cj h1 (cj (dlt_f h2) (cj (o_len wordPV b) (cj (deqN_t h3) (cj (o_at wordPV (Eq.refl (0:Int)) h4) (cj h5 (cj (o_bs sz_word ([sho1]:List UInt32)) (cj h6 True.intro)))))))) (by kernel_rfl))
theorem e2(a b:List UInt32)(com:Int)(k:Nat)(v:UInt32)(lea:Int)(up z:List UInt32)(n m k1:Nat)(v1:UInt32)(k2:Nat)(v2:UInt32){r:PV}(h1:Contract prg 111 [(wordsPV a),(wordsPV b)] (vI com))(h2:0≤com)(h3:b.length≠1)(h4:InI64 ((b.length:Int)-1))(h5:((b.length:Int)-1)=(k:Int))(h6:b[k]? = some v)(h7:Contract prg 159 [(vW v)] (vI lea))(h8:Contract prg 160 [(wordsPV b),(vI lea)] (wordsPV up))(h9:b.length≤up.length)(h10:ContractX prg 160 [.pv (wordsPV a),.pv (vI lea)] [] (.row 0 0 n 1) [(0,(.pure ((z:List UInt32).map wordPV).flatten))])(h11:InI64 ((n:Int)-(((up.take b.length).length:Nat):Int)))(h12:((n:Int)-(((up.take b.length).length:Nat):Int))=(m:Int))(h13:4*m≤140737488355328)(h14:InI64 ((((up.take b.length).length:Nat):Int)-1))(h15:((((up.take b.length).length:Nat):Int)-1)=(k1:Int))(h16:(up.take b.length)[k1]? = some v1)(h17:InI64 ((((up.take b.length).length:Nat):Int)-2))(h18:((((up.take b.length).length:Nat):Int)-2)=(k2:Int))(h19:(up.take b.length)[k2]? = some v2)(h20:InI64 ((m:Int)-1))(hL:Loop1 lea up b n m v1 v2 ((m:Int)-1) z (List.replicate m (0:UInt32)) r):Contract prg 138 [(wordsPV a),(wordsPV b)] r :=
 Contract.ofL Tryz.func138 (by kernel_rfl) (L.go mixed tabOk (n:=135) (ns:=[1,1,1,1,1,1,3,1,1,1,6,1,1,1,5,1,1,3,1,1,1,3,1,1]) (tr:=[.reg [],.reg [.none,.none,(.pv (vI com))],.dec false,.reg [.none,(iI (b.length:Int))],.dec false,.reg [.none,.none,(iI (b.length:Int)),(iI ((b.length:Int)-1)),(.row k (wordPV v)),.none,(.pv (vI lea))],dr 9 2 [.none,.none,(.pv (wordsPV up)),.none,(iI (b.length:Int)),(.slc 0 b.length (((up.take b.length):List UInt32).map wordPV)),.none,.none,(.callX [] (some (0,55)) (.row 0 0 n 1) [(0,(.pure ((z:List UInt32).map wordPV).flatten))])],.reg [.none,.none,.none,(iI (((up.take b.length).length:Nat):Int)),(iI ((n:Int)-(((up.take b.length).length:Nat):Int))),(.app m ((List.replicate m (0:UInt32):List UInt32).map wordPV).flatten)],dr 15 1 [.none,.none,(iI (((up.take b.length).length:Nat):Int)),(iI ((((up.take b.length).length:Nat):Int)-1)),(.row k1 (wordPV v1)),.none,(iU v1.toNat),.none,.none,(iI (((up.take b.length).length:Nat):Int)),(iI ((((up.take b.length).length:Nat):Int)-2)),(.row k2 (wordPV v2)),.none,(iU v2.toNat)],.reg [.none,.none,(iI ((m:Int)-1))],.keep [8,9,10,11,12,13,14],.ord [55,61]]) (cj h1 (cj (dlt_f h2) (cj (o_len wordPV b) (cj (deqN_f h3) (cj (o_len wordPV b) (cj (bs_sub h4) (cj (o_at wordPV h5 h6) (cj h7 (cj h8 (cj (o_len wordPV b) (cj (o_sl0 sz_word (up:List UInt32) (Eq.refl (((b.length:Nat):Int):Int)) h9) (cj h10 (cj (o_len wordPV (up.take b.length)) (cj (bs_sub h11) (cj (o_mk wordPV 0 4 m h12 h13 rfl) (cj (o_len wordPV (up.take b.length)) (cj (bs_sub h14) (cj (o_at wordPV h15 h16) (cj (cv_w v1) (cj (o_len wordPV (up.take b.length)) (cj (bs_sub h17) (cj (o_at wordPV h18 h19) (cj (cv_w v2) (cj (bs_sub h20) True.intro)))))))))))))))))))))))) (by kernel_rfl) hL)
theorem l10(lea:Int)(up b:List UInt32)(n m:Nat)(v1 v2:UInt32)(j_14:Int)(site_55 site_61:List UInt32)(l u:Nat)(v:UInt32)(z k:Nat)(v3:UInt32)(z1 q m1:Nat){r:PV}(h1:0≤j_14)(h2:InI64 (j_14+(((up.take b.length).length:Nat):Int)))(h3:InI64 ((j_14+(((up.take b.length).length:Nat):Int))+1))(h4:j_14=(l:Int))(h5:((j_14+(((up.take b.length).length:Nat):Int))+1)=(u:Int))(h6:l=0∨l<u)(h7:l≤u)(h8:u≤n)(h9:(up.take b.length).length<(u-l))(h10:site_55[(0+l*1)+((up.take b.length).length)]? = some v)(h11:(v.toNat*2^(min 32 64))%18446744073709551616=z)(h12:InI64 ((((up.take b.length).length:Nat):Int)-1))(h13:((((up.take b.length).length:Nat):Int)-1)=(k:Int))(h14:k<(u-l))(h15:site_55[(0+l*1)+k]? = some v3)(h16:(z%18446744073709551616) ||| (v3.toNat%18446744073709551616)=z1)(h17:v1.toNat≠0)(h18:(z1/v1.toNat)%18446744073709551616=q)(h19:z1%v1.toNat=m1)(hL:Loop2 lea up b n m v1 v2 j_14 l u q m1 site_55 site_61 r):Loop1 lea up b n m v1 v2 j_14 site_55 site_61 r :=
 L.go mixed tabOk (n:=186) (ns:=[1,1,1,1,5,1,2,1,1,1,1,1,2,1,1,1,1,1]) (tr:=[.auto,.reg [],.dec true,.reg [.none,.none,.none,.none,(iI (((up.take b.length).length:Nat):Int)),(iI (j_14+(((up.take b.length).length:Nat):Int))),(iI ((j_14+(((up.take b.length).length:Nat):Int))+1)),(.slc l u [])],dr 15 1 [.none,.none,(iI (((up.take b.length).length:Nat):Int)),(.nat ((up.take b.length).length)),(.ev (.pv (vW v))),(iU v.toNat),(iU z),.none,.none,(iI (((up.take b.length).length:Nat):Int)),(iI ((((up.take b.length).length:Nat):Int)-1)),(.nat k),(.ev (.pv (vW v3))),(iU v3.toNat),(iU z1)],dr 7 1 [.none,.none,(iU q),.none,.none,(iU m1)],.keep [8,9,10,11,12,13,14,15,17,18]]) (cj (dle_t h1) (cj (o_len wordPV (up.take b.length)) (cj (bs_add h2) (cj (bs_add h3) (cj (o_sr h4 h5 h6 h7 h8) (cj (o_len wordPV (up.take b.length)) (cj (cj (Eq.refl ((((up.take b.length).length:Nat):Int):Int)) h9) (cj (o_get1 (enc:=wordPV) (f:=fun a=>(vW a)) (fun _=>rfl) h10) (cj (cv_w v) (cj (bs_shl_u64 (k := .u64) h11) (cj (o_len wordPV (up.take b.length)) (cj (bs_sub h12) (cj (cj h13 h14) (cj (o_get1 (enc:=wordPV) (f:=fun a=>(vW a)) (fun _=>rfl) h15) (cj (cv_w v3) (cj (bs_or_u64 h16) (cj (bs_quo_u64 h17 h18) (cj (bs_rem_u64 h17 h19) True.intro)))))))))))))))))) (by kernel_rfl) hL
theorem l11(lea:Int)(up b:List UInt32)(n m:Nat)(v1 v2:UInt32)(j_14:Int)(site_55 site_61 tri dow:List UInt32)(h1:j_14<0)(h2:m=site_61.length)(h3:n=site_55.length)(h4:Contract prg 141 [(wordsPV site_61)] (wordsPV tri))(h5:Contract prg 163 [(wordsPV site_55),(vI lea)] (wordsPV dow)):Loop1 lea up b n m v1 v2 j_14 site_55 site_61 (.tup [(wordsPV tri),(wordsPV dow)]) :=
 L.done mixed tabOk (n:=168) (ns:=[1,3,3,1,1]) (tr:=[.auto,.reg [],.dec false,.frzT 11 ((site_61:List UInt32).map wordPV),.frzT 10 ((site_55:List UInt32).map wordPV),.reg [.none,(.pv (wordsPV tri)),.none,.none,(.pv (wordsPV dow))]]) (cj (dle_f h1) (cj (o_frz sz_word (site_61:List UInt32) h2) (cj (o_frz sz_word (site_55:List UInt32) h3) (cj h4 (cj h5 True.intro))))) (by kernel_rfl)
theorem l20(lea:Int)(up b:List UInt32)(n m:Nat)(v1 v2:UInt32)(j_14:Int)(l u guess_17 rest_18:Nat)(site_55 site_61:List UInt32)(d s:Nat){r:PV}(h1:rest_18<4294967296)(h2:4294967296≤guess_17)(h3:((guess_17:Nat)-(1:Nat):Int)%18446744073709551616=(d:Int))(h4:(rest_18+v1.toNat)%18446744073709551616=s)(hL:Loop2 lea up b n m v1 v2 j_14 l u d s site_55 site_61 r):Loop2 lea up b n m v1 v2 j_14 l u guess_17 rest_18 site_55 site_61 r :=
 L.go mixed tabOk (n:=219) (ns:=[1,1,1,1,1,1,1,1,1,1,1,1,1,1,1,1,1,1,1,1,1,1]) (tr:=[.auto,.reg [.none,.none,.none,.none,.none,.none,.skip,.skip,.skip,.skip,.skip,.skip,.skip,.skip,.skip,.skip,.skip,.skip,.skip,.skip,(.dec true),(.dec true)],.auto,.reg [.none,(iU d)],.reg [.none,.none,(iU s)],.keep [8,9,10,11,12,13,14,15,17,18]]) (cj (dltN_t h1) (cj (dltN_t h1) (cj (dltN_t h1) (cj (dleN_t h2) (cj (dleN_t h2) (cj (dleN_t h2) (cj (dleN_t h2) (cj (dleN_t h2) (cj (dleN_t h2) (cj (dleN_t h2) (cj (dleN_t h2) (cj (dleN_t h2) (cj (dleN_t h2) (cj (dleN_t h2) (cj (dleN_t h2) (cj (dleN_t h2) (cj (dleN_t h2) (cj (dltN_t h1) (cj (dleN_t h2) (cj (dltN_t h1) (cj (bs_sub_u64 h3) (cj (bs_add_u64 h4) True.intro)))))))))))))))))))))) (by kernel_rfl) hL
theorem l21(lea:Int)(up b:List UInt32)(n m:Nat)(v1 v2:UInt32)(j_14:Int)(l u guess_17 rest_18:Nat)(site_55 site_61:List UInt32)(p z k:Nat)(v:UInt32)(z1 d s:Nat){r:PV}(h1:rest_18<4294967296)(h2:guess_17<4294967296)(h3:(guess_17*v2.toNat)%18446744073709551616=p)(h4:(rest_18*2^(min 32 64))%18446744073709551616=z)(h5:InI64 ((((up.take b.length).length:Nat):Int)-2))(h6:((((up.take b.length).length:Nat):Int)-2)=(k:Int))(h7:k<(u-l))(h8:site_55[(0+l*1)+k]? = some v)(h9:(z%18446744073709551616) ||| (v.toNat%18446744073709551616)=z1)(h10:z1<p)(h11:((guess_17:Nat)-(1:Nat):Int)%18446744073709551616=(d:Int))(h12:(rest_18+v1.toNat)%18446744073709551616=s)(hL:Loop2 lea up b n m v1 v2 j_14 l u d s site_55 site_61 r):Loop2 lea up b n m v1 v2 j_14 l u guess_17 rest_18 site_55 site_61 r :=
 L.go mixed tabOk (n:=219) (ns:=[1,1,1,1,1,1,1,1,1,1,1,1,1,1,1,1,1,2,1,1,1,1,1,1,1,1,1,1,1,1,1]) (tr:=[.auto,.reg [.none,.none,.none,.none,.none,.none,.none,.none,(iU p),.none,(iU z),.none,.none,(iI (((up.take b.length).length:Nat):Int)),(iI ((((up.take b.length).length:Nat):Int)-2)),(.nat k),(.ev (.pv (vW v))),(iU v.toNat),(iU z1),.none,(.dec false),(.dec true)],.dec true,.reg [.none,(iU d)],.reg [.none,.none,(iU s)],.keep [8,9,10,11,12,13,14,15,17,18]]) (cj (dltN_t h1) (cj (dltN_t h1) (cj (dltN_t h1) (cj (dleN_f h2) (cj (dleN_f h2) (cj (dleN_f h2) (cj (bs_mul_u64 h3) (cj (dleN_f h2) (cj (dleN_f h2) (cj (bs_shl_u64 (k := .u64) h4) (cj (dleN_f h2) (cj (dleN_f h2) (cj (dleN_f h2) (cj (o_len wordPV (up.take b.length)) (cj (dleN_f h2) (cj (bs_sub h5) (cj (dleN_f h2) (cj (cj h6 h7) (cj (dleN_f h2) (cj (o_get1 (enc:=wordPV) (f:=fun a=>(vW a)) (fun _=>rfl) h8) (cj (dleN_f h2) (cj (cv_w v) (cj (dleN_f h2) (cj (bs_or_u64 h9) (cj (dleN_f h2) (cj (dltN_t h1) (cj (dleN_f h2) (cj (dltN_t h1) (cj (dltN_t h10) (cj (bs_sub_u64 h11) (cj (bs_add_u64 h12) True.intro))))))))))))))))))))))))))))))) (by kernel_rfl) hL
theorem l22(lea:Int)(up b:List UInt32)(n m:Nat)(v1 v2:UInt32)(j_14:Int)(l u guess_17 rest_18:Nat)(site_55 site_61:List UInt32)(p z k:Nat)(v:UInt32)(z1:Nat)(z2:List UInt32)(rem:Bool)(d:Nat)(z3:List UInt32)(w:UInt32)(k1:Nat){r:PV}(h1:rest_18<4294967296)(h2:guess_17<4294967296)(h3:(guess_17*v2.toNat)%18446744073709551616=p)(h4:(rest_18*2^(min 32 64))%18446744073709551616=z)(h5:InI64 ((((up.take b.length).length:Nat):Int)-2))(h6:((((up.take b.length).length:Nat):Int)-2)=(k:Int))(h7:k<(u-l))(h8:site_55[(0+l*1)+k]? = some v)(h9:(z%18446744073709551616) ||| (v.toNat%18446744073709551616)=z1)(h10:p≤z1)(h11:ContractX prg 161 [.row 100000 (0+l*1) (u-l) 1,.pv (wordsPV (up.take b.length)),.pv (vU guess_17)] [(100000,(.pure ((site_55:List UInt32).map wordPV).flatten))] (.pv (vB rem)) [(100000,(.pure ((z2:List UInt32).map wordPV).flatten))])(h12:rem=true)(h13:((guess_17:Nat)-(1:Nat):Int)%18446744073709551616=(d:Int))(h14:ContractX prg 162 [.row 100000 (0+l*1) (u-l) 1,.pv (wordsPV (up.take b.length))] [(100000,(.pure ((z2:List UInt32).map wordPV).flatten))] (.pv (.tup [])) [(100000,(.pure ((z3:List UInt32).map wordPV).flatten))])(h15:d%4294967296=w.toNat)(h16:j_14=(k1:Int))(h17:k1<m)(h18:k1<site_61.length)(h19:InI64 (j_14-1))(hL:Loop1 lea up b n m v1 v2 (j_14-1) z3 (site_61.set k1 w) r):Loop2 lea up b n m v1 v2 j_14 l u guess_17 rest_18 site_55 site_61 r :=
 L.go mixed tabOk (n:=243) (ns:=[1,1,1,1,1,1,1,1,1,1,1,1,1,1,1,1,1,2,1,1,1,1,1,1,1,1,1,1,1,1,1,1,1,1,2,2,1]) (tr:=[.auto,.reg [.none,.none,.none,.none,.none,.none,.none,.none,(iU p),.none,(iU z),.none,.none,(iI (((up.take b.length).length:Nat):Int)),(iI ((((up.take b.length).length:Nat):Int)-2)),(.nat k),(.ev (.pv (vW v))),(iU v.toNat),(iU z1),.none,(.dec false),(.dec true)],.dec false,.reg [.none,.none,.none,(.callX [(55,100000)] none (.pv (vB rem)) [(100000,(.pure ((z2:List UInt32).map wordPV).flatten))])],.dec true,.reg [.none,(iU d)],.reg [.none,.none,(.callX [(55,100000)] none (.pv (.tup [])) [(100000,(.pure ((z3:List UInt32).map wordPV).flatten))])],.reg [.none,.none,.none,(iW w),(.nat k1),(.cells (.pure (((site_61.set k1 w):List UInt32).map wordPV).flatten))],.reg [.none,(iI (j_14-1))],.keep [8,9,10,11,12,13,14]]) (cj (dltN_t h1) (cj (dltN_t h1) (cj (dltN_t h1) (cj (dleN_f h2) (cj (dleN_f h2) (cj (dleN_f h2) (cj (bs_mul_u64 h3) (cj (dleN_f h2) (cj (dleN_f h2) (cj (bs_shl_u64 (k := .u64) h4) (cj (dleN_f h2) (cj (dleN_f h2) (cj (dleN_f h2) (cj (o_len wordPV (up.take b.length)) (cj (dleN_f h2) (cj (bs_sub h5) (cj (dleN_f h2) (cj (cj h6 h7) (cj (dleN_f h2) (cj (o_get1 (enc:=wordPV) (f:=fun a=>(vW a)) (fun _=>rfl) h8) (cj (dleN_f h2) (cj (cv_w v) (cj (dleN_f h2) (cj (bs_or_u64 h9) (cj (dleN_f h2) (cj (dltN_t h1) (cj (dleN_f h2) (cj (dltN_t h1) (cj (dltN_f h10) (cj h11 (cj h12 (cj (bs_sub_u64 h13) (cj h14 (cj (cv_u32N h15) (cj (cj h16 h17) (cj (o_set sz_word (site_61:List UInt32) w h18) (cj (bs_sub h19) True.intro))))))))))))))))))))))))))))))))))))) (by kernel_rfl) hL
theorem l23(lea:Int)(up b:List UInt32)(n m:Nat)(v1 v2:UInt32)(j_14:Int)(l u guess_17 rest_18:Nat)(site_55 site_61:List UInt32)(p z k:Nat)(v:UInt32)(z1:Nat)(z2:List UInt32)(rem:Bool)(w:UInt32)(k1:Nat){r:PV}(h1:rest_18<4294967296)(h2:guess_17<4294967296)(h3:(guess_17*v2.toNat)%18446744073709551616=p)(h4:(rest_18*2^(min 32 64))%18446744073709551616=z)(h5:InI64 ((((up.take b.length).length:Nat):Int)-2))(h6:((((up.take b.length).length:Nat):Int)-2)=(k:Int))(h7:k<(u-l))(h8:site_55[(0+l*1)+k]? = some v)(h9:(z%18446744073709551616) ||| (v.toNat%18446744073709551616)=z1)(h10:p≤z1)(h11:ContractX prg 161 [.row 100000 (0+l*1) (u-l) 1,.pv (wordsPV (up.take b.length)),.pv (vU guess_17)] [(100000,(.pure ((site_55:List UInt32).map wordPV).flatten))] (.pv (vB rem)) [(100000,(.pure ((z2:List UInt32).map wordPV).flatten))])(h12:rem=false)(h13:guess_17%4294967296=w.toNat)(h14:j_14=(k1:Int))(h15:k1<m)(h16:k1<site_61.length)(h17:InI64 (j_14-1))(hL:Loop1 lea up b n m v1 v2 (j_14-1) z2 (site_61.set k1 w) r):Loop2 lea up b n m v1 v2 j_14 l u guess_17 rest_18 site_55 site_61 r :=
 L.go mixed tabOk (n:=237) (ns:=[1,1,1,1,1,1,1,1,1,1,1,1,1,1,1,1,1,2,1,1,1,1,1,1,1,1,1,1,1,1,1,1,2,2,1]) (tr:=[.auto,.reg [.none,.none,.none,.none,.none,.none,.none,.none,(iU p),.none,(iU z),.none,.none,(iI (((up.take b.length).length:Nat):Int)),(iI ((((up.take b.length).length:Nat):Int)-2)),(.nat k),(.ev (.pv (vW v))),(iU v.toNat),(iU z1),.none,(.dec false),(.dec true)],.dec false,.reg [.none,.none,.none,(.callX [(55,100000)] none (.pv (vB rem)) [(100000,(.pure ((z2:List UInt32).map wordPV).flatten))])],.dec false,.reg [.none,.none,.none,(iW w),(.nat k1),(.cells (.pure (((site_61.set k1 w):List UInt32).map wordPV).flatten))],.reg [.none,(iI (j_14-1))],.keep [8,9,10,11,12,13,14]]) (cj (dltN_t h1) (cj (dltN_t h1) (cj (dltN_t h1) (cj (dleN_f h2) (cj (dleN_f h2) (cj (dleN_f h2) (cj (bs_mul_u64 h3) (cj (dleN_f h2) (cj (dleN_f h2) (cj (bs_shl_u64 (k := .u64) h4) (cj (dleN_f h2) (cj (dleN_f h2) (cj (dleN_f h2) (cj (o_len wordPV (up.take b.length)) (cj (dleN_f h2) (cj (bs_sub h5) (cj (dleN_f h2) (cj (cj h6 h7) (cj (dleN_f h2) (cj (o_get1 (enc:=wordPV) (f:=fun a=>(vW a)) (fun _=>rfl) h8) (cj (dleN_f h2) (cj (cv_w v) (cj (dleN_f h2) (cj (bs_or_u64 h9) (cj (dleN_f h2) (cj (dltN_t h1) (cj (dleN_f h2) (cj (dltN_t h1) (cj (dltN_f h10) (cj h11 (cj h12 (cj (cv_u32N h13) (cj (cj h14 h15) (cj (o_set sz_word (site_61:List UInt32) w h16) (cj (bs_sub h17) True.intro))))))))))))))))))))))))))))))))))) (by kernel_rfl) hL
theorem l24(lea:Int)(up b:List UInt32)(n m:Nat)(v1 v2:UInt32)(j_14:Int)(l u guess_17 rest_18:Nat)(site_55 site_61 z:List UInt32)(rem:Bool)(d:Nat)(z1:List UInt32)(w:UInt32)(k:Nat){r:PV}(h1:4294967296≤rest_18)(h2:ContractX prg 161 [.row 100000 (0+l*1) (u-l) 1,.pv (wordsPV (up.take b.length)),.pv (vU guess_17)] [(100000,(.pure ((site_55:List UInt32).map wordPV).flatten))] (.pv (vB rem)) [(100000,(.pure ((z:List UInt32).map wordPV).flatten))])(h3:rem=true)(h4:((guess_17:Nat)-(1:Nat):Int)%18446744073709551616=(d:Int))(h5:ContractX prg 162 [.row 100000 (0+l*1) (u-l) 1,.pv (wordsPV (up.take b.length))] [(100000,(.pure ((z:List UInt32).map wordPV).flatten))] (.pv (.tup [])) [(100000,(.pure ((z1:List UInt32).map wordPV).flatten))])(h6:d%4294967296=w.toNat)(h7:j_14=(k:Int))(h8:k<m)(h9:k<site_61.length)(h10:InI64 (j_14-1))(hL:Loop1 lea up b n m v1 v2 (j_14-1) z1 (site_61.set k w) r):Loop2 lea up b n m v1 v2 j_14 l u guess_17 rest_18 site_55 site_61 r :=
 L.go mixed tabOk (n:=243) (ns:=[1,1,1,1,1,1,1,1,1,1,2,2,1]) (tr:=[.auto,.reg [.none,.none,.none,.skip,.skip,.skip,.skip,.skip,.skip,.skip,.skip,.skip,.skip,.skip,.skip,.skip,.skip,.skip,.skip,.skip,.skip,(.dec false)],.auto,.reg [.none,.none,.none,(.callX [(55,100000)] none (.pv (vB rem)) [(100000,(.pure ((z:List UInt32).map wordPV).flatten))])],.dec true,.reg [.none,(iU d)],.reg [.none,.none,(.callX [(55,100000)] none (.pv (.tup [])) [(100000,(.pure ((z1:List UInt32).map wordPV).flatten))])],.reg [.none,.none,.none,(iW w),(.nat k),(.cells (.pure (((site_61.set k w):List UInt32).map wordPV).flatten))],.reg [.none,(iI (j_14-1))],.keep [8,9,10,11,12,13,14]]) (cj (dltN_f h1) (cj (dltN_f h1) (cj (dltN_f h1) (cj (dltN_f h1) (cj (dltN_f h1) (cj h2 (cj h3 (cj (bs_sub_u64 h4) (cj h5 (cj (cv_u32N h6) (cj (cj h7 h8) (cj (o_set sz_word (site_61:List UInt32) w h9) (cj (bs_sub h10) True.intro))))))))))))) (by kernel_rfl) hL
theorem l25(lea:Int)(up b:List UInt32)(n m:Nat)(v1 v2:UInt32)(j_14:Int)(l u guess_17 rest_18:Nat)(site_55 site_61 z:List UInt32)(rem:Bool)(w:UInt32)(k:Nat){r:PV}(h1:4294967296≤rest_18)(h2:ContractX prg 161 [.row 100000 (0+l*1) (u-l) 1,.pv (wordsPV (up.take b.length)),.pv (vU guess_17)] [(100000,(.pure ((site_55:List UInt32).map wordPV).flatten))] (.pv (vB rem)) [(100000,(.pure ((z:List UInt32).map wordPV).flatten))])(h3:rem=false)(h4:guess_17%4294967296=w.toNat)(h5:j_14=(k:Int))(h6:k<m)(h7:k<site_61.length)(h8:InI64 (j_14-1))(hL:Loop1 lea up b n m v1 v2 (j_14-1) z (site_61.set k w) r):Loop2 lea up b n m v1 v2 j_14 l u guess_17 rest_18 site_55 site_61 r :=
 L.go mixed tabOk (n:=237) (ns:=[1,1,1,1,1,1,1,1,2,2,1]) (tr:=[.auto,.reg [.none,.none,.none,.skip,.skip,.skip,.skip,.skip,.skip,.skip,.skip,.skip,.skip,.skip,.skip,.skip,.skip,.skip,.skip,.skip,.skip,(.dec false)],.auto,.reg [.none,.none,.none,(.callX [(55,100000)] none (.pv (vB rem)) [(100000,(.pure ((z:List UInt32).map wordPV).flatten))])],.dec false,.reg [.none,.none,.none,(iW w),(.nat k),(.cells (.pure (((site_61.set k w):List UInt32).map wordPV).flatten))],.reg [.none,(iI (j_14-1))],.keep [8,9,10,11,12,13,14]]) (cj (dltN_f h1) (cj (dltN_f h1) (cj (dltN_f h1) (cj (dltN_f h1) (cj (dltN_f h1) (cj h2 (cj h3 (cj (cv_u32N h4) (cj (cj h5 h6) (cj (o_set sz_word (site_61:List UInt32) w h7) (cj (bs_sub h8) True.intro))))))))))) (by kernel_rfl) hL
end integer_divide
namespace integer_plus
@[reducible] noncomputable def fn:Func:=Tryz.f139
noncomputable def atK1:List Itm:=focus [0,2,0,2,0,2,0,0,2,0,0] [.code (bodyOf fn)]
def inv1(a b:List UInt32)(carry_6 t_17:Nat)(site_14:List UInt32):St:=⟨[(0,(.pv (wordsPV a))),(1,(.pv (wordsPV b))),(5,(.row 14 0 ((max a.length b.length)+1) 1)),(6,(eU carry_6)),(16,(eI ((((max a.length b.length)+1):Nat):Int))),(17,(eI (t_17:Int)))],[(14,(.pure ((site_14:List UInt32).map wordPV).flatten))]⟩
@[reducible] noncomputable def Loop1(a b:List UInt32)(carry_6 t_17:Nat)(site_14:List UInt32)(r:PV):Prop:=L prg fn atK1 (inv1 a b carry_6 t_17 site_14) r
theorem e0(a b:List UInt32){r:PV}(h1:((max a.length b.length)+1)<9223372036854775808)(h2:4*((max a.length b.length)+1)≤140737488355328)(hL:Loop1 a b 0 0 (List.replicate ((max a.length b.length)+1) (0:UInt32)) r):Contract prg 139 [(wordsPV a),(wordsPV b)] r :=
 Contract.ofL Tryz.func139 (by kernel_rfl) (L.go mixed tabOk (n:=93) (ns:=[1,1,1,1,5]) (tr:=[.reg [],.reg [.none,(iI (a.length:Int)),.none,(iI (b.length:Int)),(iI (((max a.length b.length):Nat):Int)),(iI ((((max a.length b.length)+1):Nat):Int)),(.app ((max a.length b.length)+1) ((List.replicate ((max a.length b.length)+1) (0:UInt32):List UInt32).map wordPV).flatten)],.reg [],.reg [],.keep [0,1,5,6,16,17]]) (cj (o_len wordPV a) (cj (o_len wordPV b) (cj (o_maxN a.length b.length) (cj (bs_addN h1) (cj (o_mk wordPV 0 4 ((max a.length b.length)+1) (Eq.refl (((((max a.length b.length)+1):Nat):Int):Int)) h2 rfl) True.intro))))) (by kernel_rfl) hL)
theorem l10(a b:List UInt32)(carry_6 t_17:Nat)(site_14:List UInt32)(wor wor1 s s1:Nat)(w:UInt32)(z:Nat){r:PV}(h1:t_17<((max a.length b.length)+1))(h2:Contract prg 164 [(wordsPV a),(vI (t_17:Int))] (vU wor))(h3:Contract prg 164 [(wordsPV b),(vI (t_17:Int))] (vU wor1))(h4:(wor+wor1)%18446744073709551616=s)(h5:(carry_6+s)%18446744073709551616=s1)(h6:s1%4294967296=w.toNat)(h7:t_17<site_14.length)(h8:s1/2^(min 32 64)=z)(h9:(t_17+1)<9223372036854775808)(hL:Loop1 a b z (t_17+1) (site_14.set t_17 w) r):Loop1 a b carry_6 t_17 site_14 r :=
 L.go mixed tabOk (n:=144) (ns:=[1,1,1,1,1,1,2,2,1,1]) (tr:=[.auto,.reg [],.dec true,.reg [],.reg [.none,.none,.none,(.pv (vU wor)),.none,.none,(.pv (vU wor1)),(iU s),(iU s1)],.reg [.none,.none,.none,(iW w),(.nat t_17),(.cells (.pure (((site_14.set t_17 w):List UInt32).map wordPV).flatten))],.reg [.none,(iU z)],.reg [(iI (((t_17+1):Nat):Int))],.keep [0,1,5,6,16,17]]) (cj (dltN_t h1) (cj h2 (cj h3 (cj (bs_add_u64 h4) (cj (bs_add_u64 h5) (cj (cv_u32N h6) (cj (cj (Eq.refl (((t_17:Nat):Int):Int)) h1) (cj (o_set sz_word (site_14:List UInt32) w h7) (cj (bs_shr_u64 (k := .u64) h8) (cj (bs_addN h9) True.intro)))))))))) (by kernel_rfl) hL
theorem l11(a b:List UInt32)(carry_6 t_17:Nat)(site_14 tri:List UInt32)(h1:((max a.length b.length)+1)≤t_17)(h2:((max a.length b.length)+1)=site_14.length)(h3:Contract prg 141 [(wordsPV site_14)] (wordsPV tri)):Loop1 a b carry_6 t_17 site_14 (wordsPV tri) :=
 L.done mixed tabOk (n:=126) (ns:=[1,3,1]) (tr:=[.auto,.reg [],.dec false,.frzT 5 ((site_14:List UInt32).map wordPV),.reg [.none,(.pv (wordsPV tri))]]) (cj (dltN_f h1) (cj (o_frz sz_word (site_14:List UInt32) h2) (cj h3 True.intro))) (by kernel_rfl)
end integer_plus
namespace integer_less
@[reducible] noncomputable def fn:Func:=Tryz.f140
noncomputable def atK1:List Itm:=focus [0,2,0,2,0,2,0,0,2,0,0] [.code (bodyOf fn)]
def inv1(a b:List UInt32)(borrow_6 t_14:Nat)(site_11:List UInt32):St:=⟨[(0,(.pv (wordsPV a))),(1,(.pv (wordsPV b))),(5,(.row 11 0 a.length 1)),(6,(eU borrow_6)),(13,(eI (a.length:Int))),(14,(eI (t_14:Int)))],[(11,(.pure ((site_11:List UInt32).map wordPV).flatten))]⟩
@[reducible] noncomputable def Loop1(a b:List UInt32)(borrow_6 t_14:Nat)(site_11:List UInt32)(r:PV):Prop:=L prg fn atK1 (inv1 a b borrow_6 t_14 site_11) r
theorem e0(a b:List UInt32){r:PV}(h1:4*a.length≤140737488355328)(hL:Loop1 a b 0 0 (List.replicate a.length (0:UInt32)) r):Contract prg 140 [(wordsPV a),(wordsPV b)] r :=
 Contract.ofL Tryz.func140 (by kernel_rfl) (L.go mixed tabOk (n:=93) (ns:=[1,5]) (tr:=[.reg [],.reg [.none,(iI (a.length:Int)),(.app a.length ((List.replicate a.length (0:UInt32):List UInt32).map wordPV).flatten)],.reg [],.reg [],.keep [0,1,5,6,13,14]]) (cj (o_len wordPV a) (cj (o_mk wordPV 0 4 a.length (Eq.refl (((a.length:Nat):Int):Int)) h1 rfl) True.intro)) (by kernel_rfl) hL)
theorem l10(a b:List UInt32)(borrow_6 t_14:Nat)(site_11:List UInt32)(v:UInt32)(wor d d1:Nat)(w:UInt32)(z:Nat){r:PV}(h1:t_14<a.length)(h2:a[t_14]? = some v)(h3:Contract prg 164 [(wordsPV b),(vI (t_14:Int))] (vU wor))(h4:((v.toNat:Nat)-(wor:Nat):Int)%18446744073709551616=(d:Int))(h5:((d:Nat)-(borrow_6:Nat):Int)%18446744073709551616=(d1:Int))(h6:d1%4294967296=w.toNat)(h7:t_14<site_11.length)(h8:d1/2^(min 63 64)=z)(h9:(t_14+1)<9223372036854775808)(hL:Loop1 a b z (t_14+1) (site_11.set t_14 w) r):Loop1 a b borrow_6 t_14 site_11 r :=
 L.go mixed tabOk (n:=144) (ns:=[1,3,1,1,1,1,1,2,2,1,1]) (tr:=[.auto,.reg [],.dec true,.reg [],dr 11 1 [.none,.none,(.row t_14 (wordPV v)),.none,(iU v.toNat),.none,.none,(.pv (vU wor)),(iU d),.none,(iU d1)],.reg [.none,.none,.none,(iW w),(.nat t_14),(.cells (.pure (((site_11.set t_14 w):List UInt32).map wordPV).flatten))],.reg [.none,(iU z)],.reg [(iI (((t_14+1):Nat):Int))],.keep [0,1,5,6,13,14]]) (cj (dltN_t h1) (cj (o_at wordPV (Eq.refl (((t_14:Nat):Int):Int)) h2) (cj (cv_w v) (cj h3 (cj (bs_sub_u64 h4) (cj (bs_sub_u64 h5) (cj (cv_u32N h6) (cj (cj (Eq.refl (((t_14:Nat):Int):Int)) h1) (cj (o_set sz_word (site_11:List UInt32) w h7) (cj (bs_shr_u64 (k := .u64) h8) (cj (bs_addN h9) True.intro))))))))))) (by kernel_rfl) hL
theorem l11(a b:List UInt32)(borrow_6 t_14:Nat)(site_11 tri:List UInt32)(h1:a.length≤t_14)(h2:a.length=site_11.length)(h3:Contract prg 141 [(wordsPV site_11)] (wordsPV tri)):Loop1 a b borrow_6 t_14 site_11 (wordsPV tri) :=
 L.done mixed tabOk (n:=126) (ns:=[1,3,1]) (tr:=[.auto,.reg [],.dec false,.frzT 5 ((site_11:List UInt32).map wordPV),.reg [.none,(.pv (wordsPV tri))]]) (cj (dltN_f h1) (cj (o_frz sz_word (site_11:List UInt32) h2) (cj h3 True.intro))) (by kernel_rfl)
end integer_less
namespace integer_trim
@[reducible] noncomputable def fn:Func:=Tryz.f141
noncomputable def atK1:List Itm:=focus [0,2,0,2,0,0,0] [.code (bodyOf fn)]
def inv1(m:List UInt32)(n_3:Int):St:=⟨[(0,(.pv (wordsPV m))),(3,(eI n_3))],[]⟩
@[reducible] noncomputable def Loop1(m:List UInt32)(n_3:Int)(r:PV):Prop:=L prg fn atK1 (inv1 m n_3) r
theorem e0 (m : List UInt32) {r : PV}  (hL : Loop1 m (m.length : Int) r) : Contract prg 141 [(wordsPV m)] r :=
 Contract.ofL Tryz.func141 (by kernel_rfl) (L.go mixed tabOk (n:=81) (ns:=[1]) (tr:=[.reg [],.reg [.none,(iI (m.length:Int))],.keep [0,3]]) (cj (o_len wordPV m) True.intro) (by kernel_rfl) hL)
theorem l10(m:List UInt32)(n_3:Int)(k:Nat)(v:UInt32){r:PV}(h1:0<n_3)(h2:InI64 (n_3-1))(h3:(n_3-1)=(k:Int))(h4:m[k]? = some v)(h5:v.toNat=0)(hL:Loop1 m (n_3-1) r):Loop1 m n_3 r :=
 L.go mixed tabOk (n:=108) (ns:=[1,1,1,1,1,3,1,1,1,1,1]) (tr:=[.auto,.reg [.none,.none,.none,.none,.none,(iI (n_3-1)),(.row k (wordPV v)),.none,.none,(.dec true)],.dec true,.reg [.none,(iI (n_3-1))],.keep [0,3]]) (cj (dlt_t h1) (cj (dlt_t h1) (cj (dlt_t h1) (cj (bs_sub h2) (cj (dlt_t h1) (cj (o_at wordPV h3 h4) (cj (dlt_t h1) (cj (dlt_t h1) (cj (dlt_t h1) (cj (deqN_t h5) (cj (bs_sub h2) True.intro))))))))))) (by kernel_rfl) hL
theorem l12(m:List UInt32)(n_3:Int)(k:Nat)(v:UInt32)(u:Nat)(h1:0<n_3)(h2:InI64 (n_3-1))(h3:(n_3-1)=(k:Int))(h4:m[k]? = some v)(h5:v.toNat≠0)(h6:n_3≠0)(h7:n_3=(u:Int))(h8:u≤m.length)(h9:(([]:List UInt32)++(m.take u):List UInt32).length*4≤140737488355328):Loop1 m n_3 (wordsPV (m.take u)) :=
 L.done mixed tabOk (n:=129) (ns:=[1,1,1,1,1,3,1,1,1,1,1,6,6,3]) (tr:=[.auto,.reg [.none,.none,.none,.none,.none,(iI (n_3-1)),(.row k (wordPV v)),.none,.none,(.dec true)],.dec false,.reg [],.dec false,.reg [.none,.none,.none,(.slc 0 u (((m.take u):List UInt32).map wordPV)),(.app ((m.take u):List UInt32).length (((m.take u):List UInt32).map wordPV).flatten)],.frzT 2 (((m.take u):List UInt32).map wordPV)]) (cj (dlt_t h1) (cj (dlt_t h1) (cj (dlt_t h1) (cj (bs_sub h2) (cj (dlt_t h1) (cj (o_at wordPV h3 h4) (cj (dlt_t h1) (cj (dlt_t h1) (cj (dlt_t h1) (cj (deqN_f h5) (cj (deq_f h6) (cj (o_sl0 sz_word (m:List UInt32) h7 h8) (cj (o_appL sz_word ([]:List UInt32) ((m.take u):List UInt32) 4 (Eq.refl ([]:List UInt32).length) h9 rfl) (cj (o_frz sz_word ((m.take u):List UInt32) (Eq.refl ((m.take u):List UInt32).length)) True.intro)))))))))))))) (by kernel_rfl)
theorem l13(m:List UInt32)(n_3:Int)(h1:n_3≤0)(h2:n_3=0):Loop1 m n_3 (wordsPV []) :=
 L.done mixed tabOk (n:=126) (ns:=[1,1,1,1,1,1,1,1]) (tr:=[.auto,.reg [.none,.none,.none,.skip,.skip,.skip,.skip,.skip,.skip,(.dec false)],.auto,.reg [],.dec true,.reg []]) (cj (dlt_f h1) (cj (dlt_f h1) (cj (dlt_f h1) (cj (dlt_f h1) (cj (dlt_f h1) (cj (dlt_f h1) (cj (dlt_f h1) (cj (deq_t h2) True.intro)))))))) (by kernel_rfl)
end integer_trim
namespace math_bits_LeadingZeros32
theorem e0(x:UInt32)(len:Int)(h1:Contract prg 177 [(vW x)] (vI len))(h2:InI64 (32-len)):Contract prg 159 [(vW x)] (vI (32-len)) :=
 Contract.ofL Tryz.func159 (by kernel_rfl) (L.done mixed tabOk (n:=72) (ns:=[1,1]) (tr:=[.reg [],.reg [.none,(.pv (vI len)),(iI (32-len))]]) (cj h1 (cj (bs_sub h2) True.intro)) (by kernel_rfl))
end math_bits_LeadingZeros32
namespace integer_up
@[reducible] noncomputable def fn:Func:=Tryz.f160
noncomputable def atK1:List Itm:=focus [0,2,0,2,0,0,2,0,0] [.code (bodyOf fn)]
def inv1(n:Int)(a:List UInt32)(t_15:Nat)(site_12:List UInt32):St:=⟨[(1,(eI n)),(5,(.row 12 0 (a.length+1) 1)),(13,(.pv (wordsPV a))),(14,(eI (a.length:Int))),(15,(eI (t_15:Int)))],[(12,(.pure ((site_12:List UInt32).map wordPV).flatten))]⟩
@[reducible] noncomputable def Loop1(n:Int)(a:List UInt32)(t_15:Nat)(site_12:List UInt32)(r:PV):Prop:=L prg fn atK1 (inv1 n a t_15 site_12) r
theorem e0(a:List UInt32)(n:Int){r:PV}(h1:(a.length+1)<9223372036854775808)(h2:4*(a.length+1)≤140737488355328)(hL:Loop1 n a 0 (List.replicate (a.length+1) (0:UInt32)) r):Contract prg 160 [(wordsPV a),(vI n)] r :=
 Contract.ofL Tryz.func160 (by kernel_rfl) (L.go mixed tabOk (n:=87) (ns:=[1,1,5,1]) (tr:=[.reg [],.reg [.none,(iI (a.length:Int)),(iI (((a.length+1):Nat):Int)),(.app (a.length+1) ((List.replicate (a.length+1) (0:UInt32):List UInt32).map wordPV).flatten)],.reg [.none,(iI (a.length:Int))],.keep [1,5,13,14,15]]) (cj (o_len wordPV a) (cj (bs_addN h1) (cj (o_mk wordPV 0 4 (a.length+1) (Eq.refl ((((a.length+1):Nat):Int):Int)) h2 rfl) (cj (o_len wordPV a) True.intro)))) (by kernel_rfl) hL)
theorem l10(n:Int)(a:List UInt32)(t_15:Nat)(site_12:List UInt32)(v:UInt32)(k z:Nat)(v1 w z1:UInt32)(z2:Nat)(w1:UInt32){r:PV}(h1:t_15<a.length)(h2:a[t_15]? = some v)(h3:n=(k:Int))(h4:(v.toNat*2^(min k 64))%18446744073709551616=z)(h5:t_15<(a.length+1))(h6:site_12[t_15]? = some v1)(h7:z%4294967296=w.toNat)(h8:(v1.toNat%4294967296) ||| (w.toNat%4294967296)=z1.toNat)(h9:t_15<site_12.length)(h10:(t_15+1)<9223372036854775808)(h11:z/2^(min 32 64)=z2)(h12:z2%4294967296=w1.toNat)(h13:(t_15+1)<(a.length+1))(h14:(t_15+1)<(site_12.set t_15 z1).length)(hL:Loop1 n a (t_15+1) ((site_12.set t_15 z1).set (t_15+1) w1) r):Loop1 n a t_15 site_12 r :=
 L.go mixed tabOk (n:=138) (ns:=[1,3,1,1,2,1,1,1,2,2,1,1,1,2,2,1]) (tr:=[.auto,.reg [],.dec true,.reg [.none,(.row t_15 (wordPV v))],.reg [.none,(iU v.toNat),.none,(iU z)],.reg [.none,.none,(.nat t_15),(.ev (.pv (vW v1))),.none,(iW w),(iW z1),(.nat t_15),(.cells (.pure (((site_12.set t_15 z1):List UInt32).map wordPV).flatten))],.reg [.none,.none,(iI (((t_15+1):Nat):Int)),.none,(iU z2),(iW w1),(.nat (t_15+1)),(.cells (.pure ((((site_12.set t_15 z1).set (t_15+1) w1):List UInt32).map wordPV).flatten))],.reg [(iI (((t_15+1):Nat):Int))],.keep [1,5,13,14,15]]) (cj (dltN_t h1) (cj (o_at wordPV (Eq.refl (((t_15:Nat):Int):Int)) h2) (cj (cv_w v) (cj (o_tk h3 (bs_shl_u64 (k := .i64) h4)) (cj (cj (Eq.refl (((t_15:Nat):Int):Int)) h5) (cj (o_get (enc:=wordPV) (f:=fun a=>(vW a)) (fun _=>rfl) h6) (cj (cv_u32N h7) (cj (bs_or_u32 h8) (cj (cj (Eq.refl (((t_15:Nat):Int):Int)) h5) (cj (o_set sz_word (site_12:List UInt32) z1 h9) (cj (bs_addN h10) (cj (bs_shr_u64 (k := .u64) h11) (cj (cv_u32N h12) (cj (cj (Eq.refl ((((t_15+1):Nat):Int):Int)) h13) (cj (o_set sz_word ((site_12.set t_15 z1):List UInt32) w1 h14) (cj (bs_addN h10) True.intro)))))))))))))))) (by kernel_rfl) hL
theorem l11(n:Int)(a:List UInt32)(t_15:Nat)(site_12:List UInt32)(h1:a.length≤t_15)(h2:(a.length+1)=site_12.length):Loop1 n a t_15 site_12 (wordsPV site_12) :=
 L.done mixed tabOk (n:=120) (ns:=[1,3]) (tr:=[.auto,.reg [],.dec false,.reg [],.frzT 4 ((site_12:List UInt32).map wordPV)]) (cj (dltN_f h1) (cj (o_frz sz_word (site_12:List UInt32) h2) True.intro)) (by kernel_rfl)
end integer_up
namespace integer_upX
@[reducible] noncomputable def fn:Func:=Tryz.f160
noncomputable def atK1:List Itm:=focus [0,2,0,2,0,0,2,0,0] [.code (bodyOf fn)]
def inv1(n:Int)(a:List UInt32)(t_15:Nat)(site_12:List UInt32):St:=⟨[(1,(eI n)),(5,(.row 12 0 (a.length+1) 1)),(13,(.pv (wordsPV a))),(14,(eI (a.length:Int))),(15,(eI (t_15:Int)))],[(12,(.pure ((site_12:List UInt32).map wordPV).flatten))]⟩
@[reducible] noncomputable def Loop1(n:Int)(a:List UInt32)(t_15:Nat)(site_12:List UInt32)(sin:Sto)(r:EV)(sout:Sto):Prop:=LX prg fn atK1 (inv1 n a t_15 site_12) sin r sout
theorem e0(a:List UInt32)(n:Int){r:EV}{sout:Sto}(h1:(a.length+1)<9223372036854775808)(h2:4*(a.length+1)≤140737488355328)(hL:Loop1 n a 0 (List.replicate (a.length+1) (0:UInt32)) [] r sout):ContractX prg 160 [(.pv (wordsPV a)),(eI n)] [] r sout :=
 ContractX.ofL Tryz.func160 (by kernel_rfl) (LX.go mixed tabOk (n:=87) (ns:=[1,1,5,1]) (tr:=[.reg [],.reg [.none,(iI (a.length:Int)),(iI (((a.length+1):Nat):Int)),(.app (a.length+1) ((List.replicate (a.length+1) (0:UInt32):List UInt32).map wordPV).flatten)],.reg [.none,(iI (a.length:Int))],.keep [1,5,13,14,15]]) rfl (cj (o_len wordPV a) (cj (bs_addN h1) (cj (o_mk wordPV 0 4 (a.length+1) (Eq.refl ((((a.length+1):Nat):Int):Int)) h2 rfl) (cj (o_len wordPV a) True.intro)))) (by kernel_rfl) hL)
theorem l10(n:Int)(a:List UInt32)(t_15:Nat)(site_12:List UInt32)(v:UInt32)(k z:Nat)(v1 w z1:UInt32)(z2:Nat)(w1:UInt32){r:EV}{sout:Sto}{sin:Sto}(hs:sin.all (fun p=>Nat.ble fn.ntmps p.1)=true)(h1:t_15<a.length)(h2:a[t_15]? = some v)(h3:n=(k:Int))(h4:(v.toNat*2^(min k 64))%18446744073709551616=z)(h5:t_15<(a.length+1))(h6:site_12[t_15]? = some v1)(h7:z%4294967296=w.toNat)(h8:(v1.toNat%4294967296) ||| (w.toNat%4294967296)=z1.toNat)(h9:t_15<site_12.length)(h10:(t_15+1)<9223372036854775808)(h11:z/2^(min 32 64)=z2)(h12:z2%4294967296=w1.toNat)(h13:(t_15+1)<(a.length+1))(h14:(t_15+1)<(site_12.set t_15 z1).length)(hL:Loop1 n a (t_15+1) ((site_12.set t_15 z1).set (t_15+1) w1) sin r sout):Loop1 n a t_15 site_12 sin r sout :=
 LX.go mixed tabOk (n:=138) (ns:=[1,3,1,1,2,1,1,1,2,2,1,1,1,2,2,1]) (tr:=[.auto,.reg [],.dec true,.reg [.none,(.row t_15 (wordPV v))],.reg [.none,(iU v.toNat),.none,(iU z)],.reg [.none,.none,(.nat t_15),(.ev (.pv (vW v1))),.none,(iW w),(iW z1),(.nat t_15),(.cells (.pure (((site_12.set t_15 z1):List UInt32).map wordPV).flatten))],.reg [.none,.none,(iI (((t_15+1):Nat):Int)),.none,(iU z2),(iW w1),(.nat (t_15+1)),(.cells (.pure ((((site_12.set t_15 z1).set (t_15+1) w1):List UInt32).map wordPV).flatten))],.reg [(iI (((t_15+1):Nat):Int))],.keep [1,5,13,14,15]]) hs (cj (dltN_t h1) (cj (o_at wordPV (Eq.refl (((t_15:Nat):Int):Int)) h2) (cj (cv_w v) (cj (o_tk h3 (bs_shl_u64 (k := .i64) h4)) (cj (cj (Eq.refl (((t_15:Nat):Int):Int)) h5) (cj (o_get (enc:=wordPV) (f:=fun a=>(vW a)) (fun _=>rfl) h6) (cj (cv_u32N h7) (cj (bs_or_u32 h8) (cj (cj (Eq.refl (((t_15:Nat):Int):Int)) h5) (cj (o_set sz_word (site_12:List UInt32) z1 h9) (cj (bs_addN h10) (cj (bs_shr_u64 (k := .u64) h11) (cj (cv_u32N h12) (cj (cj (Eq.refl ((((t_15+1):Nat):Int):Int)) h13) (cj (o_set sz_word ((site_12.set t_15 z1):List UInt32) w1 h14) (cj (bs_addN h10) True.intro)))))))))))))))) (by kernel_rfl) hL
theorem l11(n:Int)(a:List UInt32)(t_15:Nat)(site_12:List UInt32){sin:Sto}(hs:sin.all (fun p=>Nat.ble fn.ntmps p.1)=true)(hi:sin.all (fun p=>gvB p.1||(Sto.get [(0,(.pure (((site_12.take (a.length+1)):List UInt32).map wordPV).flatten))] p.1).isSome)=true)(h1:a.length≤t_15):Loop1 n a t_15 site_12 sin (.row 0 0 (a.length+1) 1) [(0,(.pure (((site_12.take (a.length+1)):List UInt32).map wordPV).flatten))] :=
 LX.done2 mixed tabOk (n:=120) (ns:=[1,1]) (tr:=[.auto,.reg [],.dec false,.reg [],.ren 12 0,.cut 0 ((a.length+1)*1) (((site_12.take (a.length+1)):List UInt32).map wordPV).flatten,.ord [0]]) hs hi (cj (dltN_f h1) (cj (o_cut sz_word (site_12:List UInt32) (a.length+1)) True.intro)) (by kernel_rfl)
end integer_upX
namespace integer_remove
@[reducible] noncomputable def fn:Func:=Tryz.f161
noncomputable def atK1:List Itm:=focus [0,2,0,2,0,0,2,0,0] [.code (bodyOf fn)]
def inv1(off len:Nat)(v:List UInt32)(n carry_7 borrow_8 t_13:Nat)(site_100000:List UInt32):St:=⟨[(0,(.row 100000 off len 1)),(1,(.pv (wordsPV v))),(2,(eU n)),(7,(eU carry_7)),(8,(eU borrow_8)),(12,(eI (len:Int))),(13,(eI (t_13:Int)))],[(100000,(.pure ((site_100000:List UInt32).map wordPV).flatten))]⟩
@[reducible] noncomputable def Loop1(off len:Nat)(v:List UInt32)(n carry_7 borrow_8 t_13:Nat)(site_100000:List UInt32)(sin:Sto)(r:EV)(sout:Sto):Prop:=LX prg fn atK1 (inv1 off len v n carry_7 borrow_8 t_13 site_100000) sin r sout
theorem e0 (u : List UInt32) (off len : Nat) (v : List UInt32) (n : Nat) {r : EV} {sout : Sto}  (hL : Loop1 off len v n 0 0 0 u [(100000, (.pure ((u : List UInt32).map wordPV).flatten))] r sout) : ContractX prg 161 [(.row 100000 off len 1), (.pv (wordsPV v)), (eU n)] [(100000, (.pure ((u : List UInt32).map wordPV).flatten))] r sout :=
 ContractX.ofL Tryz.func161 (by kernel_rfl) (LX.go mixed tabOk (n:=87) (ns:=[]) (tr:=[.reg [],.reg [],.reg [],.keep [0,1,2,7,8,12,13]]) rfl True.intro (by kernel_rfl) hL)
theorem l10(off len:Nat)(v:List UInt32)(n carry_7 borrow_8 t_13:Nat)(site_100000:List UInt32)(wor p s:Nat)(v1 w:UInt32)(d d1:Nat)(w1:UInt32)(z z1:Nat){r:EV}{sout:Sto}{sin:Sto}(hs:sin.all (fun p=>Nat.ble fn.ntmps p.1)=true)(h1:t_13<len)(h2:Contract prg 164 [(wordsPV v),(vI (t_13:Int))] (vU wor))(h3:(n*wor)%18446744073709551616=p)(h4:(carry_7+p)%18446744073709551616=s)(h5:site_100000[off+t_13]? = some v1)(h6:s%4294967296=w.toNat)(h7:((v1.toNat:Nat)-(w.toNat:Nat):Int)%18446744073709551616=(d:Int))(h8:((d:Nat)-(borrow_8:Nat):Int)%18446744073709551616=(d1:Int))(h9:d1%4294967296=w1.toNat)(h10:(off+t_13)<site_100000.length)(h11:d1/2^(min 63 64)=z)(h12:s/2^(min 32 64)=z1)(h13:(t_13+1)<9223372036854775808)(hL:Loop1 off len v n z1 z (t_13+1) (site_100000.set (off+t_13) w1) sin r sout):Loop1 off len v n carry_7 borrow_8 t_13 site_100000 sin r sout :=
 LX.go mixed tabOk (n:=150) (ns:=[1,1,1,1,2,1,1,1,1,1,1,1,2,2,1,1,1]) (tr:=[.auto,.reg [],.dec true,.reg [],.reg [.none,.none,.none,.none,(.pv (vU wor)),(iU p),(iU s)],.reg [.none,.none,(.nat t_13),(.ev (.pv (vW v1))),(iU v1.toNat),.none,(iW w),(iU w.toNat),(iU d),.none,(iU d1)],.reg [.none,.none,.none,(iW w1),(.nat t_13),(.cells (.pure (((site_100000.set (off+t_13) w1):List UInt32).map wordPV).flatten))],.reg [.none,(iU z)],.reg [.none,(iU z1)],.reg [(iI (((t_13+1):Nat):Int))],.keep [0,1,2,7,8,12,13]]) hs (cj (dltN_t h1) (cj h2 (cj (bs_mul_u64 h3) (cj (bs_add_u64 h4) (cj (cj (Eq.refl (((t_13:Nat):Int):Int)) h1) (cj (o_get1 (enc:=wordPV) (f:=fun a=>(vW a)) (fun _=>rfl) h5) (cj (cv_w v1) (cj (cv_u32N h6) (cj (cv_w w) (cj (bs_sub_u64 h7) (cj (bs_sub_u64 h8) (cj (cv_u32N h9) (cj (cj (Eq.refl (((t_13:Nat):Int):Int)) h1) (cj (o_set1 sz_word (site_100000:List UInt32) w1 off t_13 h10) (cj (bs_shr_u64 (k := .u64) h11) (cj (bs_shr_u64 (k := .u64) h12) (cj (bs_addN h13) True.intro))))))))))))))))) (by kernel_rfl) hL
theorem l11(off len:Nat)(v:List UInt32)(n carry_7 borrow_8 t_13:Nat)(site_100000:List UInt32){sin:Sto}(hs:sin.all (fun p=>Nat.ble fn.ntmps p.1)=true)(hi:sin.all (fun p=>gvB p.1||(Sto.get [(100000,(.pure ((site_100000:List UInt32).map wordPV).flatten))] p.1).isSome)=true)(h1:len≤t_13):Loop1 off len v n carry_7 borrow_8 t_13 site_100000 sin (.pv (vB ((borrow_8:Int)==1))) [(100000,(.pure ((site_100000:List UInt32).map wordPV).flatten))] :=
 LX.done2 mixed tabOk (n:=120) (ns:=[1]) (tr:=[.auto,.reg [],.dec false,.reg [],.ord [100000]]) hs hi (cj (dltN_f h1) True.intro) (by kernel_rfl)
end integer_remove
namespace integer_back
@[reducible] noncomputable def fn:Func:=Tryz.f162
noncomputable def atK1:List Itm:=focus [0,2,0,2,0,0] [.code (bodyOf fn)]
def inv1(off len:Nat)(v:List UInt32)(carry_4 t_8:Nat)(site_100000:List UInt32):St:=⟨[(0,(.row 100000 off len 1)),(1,(.pv (wordsPV v))),(4,(eU carry_4)),(7,(eI (len:Int))),(8,(eI (t_8:Int)))],[(100000,(.pure ((site_100000:List UInt32).map wordPV).flatten))]⟩
@[reducible] noncomputable def Loop1(off len:Nat)(v:List UInt32)(carry_4 t_8:Nat)(site_100000:List UInt32)(sin:Sto)(r:EV)(sout:Sto):Prop:=LX prg fn atK1 (inv1 off len v carry_4 t_8 site_100000) sin r sout
theorem e0 (u : List UInt32) (off len : Nat) (v : List UInt32) {r : EV} {sout : Sto}  (hL : Loop1 off len v 0 0 u [(100000, (.pure ((u : List UInt32).map wordPV).flatten))] r sout) : ContractX prg 162 [(.row 100000 off len 1), (.pv (wordsPV v))] [(100000, (.pure ((u : List UInt32).map wordPV).flatten))] r sout :=
 ContractX.ofL Tryz.func162 (by kernel_rfl) (LX.go mixed tabOk (n:=78) (ns:=[]) (tr:=[.reg [],.reg [],.keep [0,1,4,7,8]]) rfl True.intro (by kernel_rfl) hL)
theorem l10(off len:Nat)(v:List UInt32)(carry_4 t_8:Nat)(site_100000:List UInt32)(v1:UInt32)(wor s s1:Nat)(w:UInt32)(z:Nat){r:EV}{sout:Sto}{sin:Sto}(hs:sin.all (fun p=>Nat.ble fn.ntmps p.1)=true)(h1:t_8<len)(h2:site_100000[off+t_8]? = some v1)(h3:Contract prg 164 [(wordsPV v),(vI (t_8:Int))] (vU wor))(h4:(v1.toNat+wor)%18446744073709551616=s)(h5:(carry_4+s)%18446744073709551616=s1)(h6:s1%4294967296=w.toNat)(h7:(off+t_8)<site_100000.length)(h8:s1/2^(min 32 64)=z)(h9:(t_8+1)<9223372036854775808)(hL:Loop1 off len v z (t_8+1) (site_100000.set (off+t_8) w) sin r sout):Loop1 off len v carry_4 t_8 site_100000 sin r sout :=
 LX.go mixed tabOk (n:=129) (ns:=[1,2,1,1,1,1,1,1,2,2,1,1]) (tr:=[.auto,.reg [],.dec true,.reg [],dr 11 1 [.none,.none,.none,(.nat t_8),(.ev (.pv (vW v1))),(iU v1.toNat),.none,.none,(.pv (vU wor)),(iU s),(iU s1)],.reg [.none,.none,.none,(iW w),(.nat t_8),(.cells (.pure (((site_100000.set (off+t_8) w):List UInt32).map wordPV).flatten))],.reg [.none,(iU z)],.reg [(iI (((t_8+1):Nat):Int))],.keep [0,1,4,7,8]]) hs (cj (dltN_t h1) (cj (cj (Eq.refl (((t_8:Nat):Int):Int)) h1) (cj (o_get1 (enc:=wordPV) (f:=fun a=>(vW a)) (fun _=>rfl) h2) (cj (cv_w v1) (cj h3 (cj (bs_add_u64 h4) (cj (bs_add_u64 h5) (cj (cv_u32N h6) (cj (cj (Eq.refl (((t_8:Nat):Int):Int)) h1) (cj (o_set1 sz_word (site_100000:List UInt32) w off t_8 h7) (cj (bs_shr_u64 (k := .u64) h8) (cj (bs_addN h9) True.intro)))))))))))) (by kernel_rfl) hL
theorem l11(off len:Nat)(v:List UInt32)(carry_4 t_8:Nat)(site_100000:List UInt32){sin:Sto}(hs:sin.all (fun p=>Nat.ble fn.ntmps p.1)=true)(hi:sin.all (fun p=>gvB p.1||(Sto.get [(100000,(.pure ((site_100000:List UInt32).map wordPV).flatten))] p.1).isSome)=true)(h1:len≤t_8):Loop1 off len v carry_4 t_8 site_100000 sin (.pv (.tup [])) [(100000,(.pure ((site_100000:List UInt32).map wordPV).flatten))] :=
 LX.done2 mixed tabOk (n:=105) (ns:=[1]) (tr:=[.auto,.reg [],.dec false,.ord [100000]]) hs hi (cj (dltN_f h1) True.intro) (by kernel_rfl)
end integer_back
namespace integer_down
@[reducible] noncomputable def fn:Func:=Tryz.f163
noncomputable def atK1:List Itm:=focus [0,2,0,2,0,0,2,0,0] [.code (bodyOf fn)]
def inv1(a:List UInt32)(n:Int)(t_12:Nat)(site_9:List UInt32):St:=⟨[(0,(.pv (wordsPV a))),(1,(eI n)),(5,(.row 9 0 a.length 1)),(11,(eI (a.length:Int))),(12,(eI (t_12:Int)))],[(9,(.pure ((site_9:List UInt32).map wordPV).flatten))]⟩
@[reducible] noncomputable def Loop1(a:List UInt32)(n:Int)(t_12:Nat)(site_9:List UInt32)(r:PV):Prop:=L prg fn atK1 (inv1 a n t_12 site_9) r
theorem e0(a:List UInt32)(n:Int){r:PV}(h1:4*a.length≤140737488355328)(hL:Loop1 a n 0 (List.replicate a.length (0:UInt32)) r):Contract prg 163 [(wordsPV a),(vI n)] r :=
 Contract.ofL Tryz.func163 (by kernel_rfl) (L.go mixed tabOk (n:=87) (ns:=[1,5,1]) (tr:=[.reg [],.reg [.none,(iI (a.length:Int)),(.app a.length ((List.replicate a.length (0:UInt32):List UInt32).map wordPV).flatten)],.reg [.none,(iI (a.length:Int))],.keep [0,1,5,11,12]]) (cj (o_len wordPV a) (cj (o_mk wordPV 0 4 a.length (Eq.refl (((a.length:Nat):Int):Int)) h1 rfl) (cj (o_len wordPV a) True.intro))) (by kernel_rfl) hL)
theorem l10(a:List UInt32)(n:Int)(t_12:Nat)(site_9:List UInt32)(v:UInt32)(wor z z1 k z2:Nat)(w:UInt32){r:PV}(h1:t_12<a.length)(h2:a[t_12]? = some v)(h3:(t_12+1)<9223372036854775808)(h4:Contract prg 164 [(wordsPV a),(vI (((t_12+1):Nat):Int))] (vU wor))(h5:(wor*2^(min 32 64))%18446744073709551616=z)(h6:(v.toNat%18446744073709551616) ||| (z%18446744073709551616)=z1)(h7:n=(k:Int))(h8:z1/2^(min k 64)=z2)(h9:z2%4294967296=w.toNat)(h10:t_12<site_9.length)(hL:Loop1 a n (t_12+1) (site_9.set t_12 w) r):Loop1 a n t_12 site_9 r :=
 L.go mixed tabOk (n:=126) (ns:=[1,3,1,1,1,1,1,1,1,2,2,1]) (tr:=[.auto,.reg [],.dec true,.reg [],dr 17 1 [.none,.none,.none,.none,(.row t_12 (wordPV v)),.none,(iU v.toNat),.none,.none,(iI (((t_12+1):Nat):Int)),(.pv (vU wor)),(iU z),(iU z1),.none,(iU z2),(iW w),(.nat t_12),(.cells (.pure (((site_9.set t_12 w):List UInt32).map wordPV).flatten))],.reg [(iI (((t_12+1):Nat):Int))],.keep [0,1,5,11,12]]) (cj (dltN_t h1) (cj (o_at wordPV (Eq.refl (((t_12:Nat):Int):Int)) h2) (cj (cv_w v) (cj (bs_addN h3) (cj h4 (cj (bs_shl_u64 (k := .u64) h5) (cj (bs_or_u64 h6) (cj (o_tk h7 (bs_shr_u64 (k := .i64) h8)) (cj (cv_u32N h9) (cj (cj (Eq.refl (((t_12:Nat):Int):Int)) h1) (cj (o_set sz_word (site_9:List UInt32) w h10) (cj (bs_addN h3) True.intro)))))))))))) (by kernel_rfl) hL
theorem l11(a:List UInt32)(n:Int)(t_12:Nat)(site_9 tri:List UInt32)(h1:a.length≤t_12)(h2:a.length=site_9.length)(h3:Contract prg 141 [(wordsPV site_9)] (wordsPV tri)):Loop1 a n t_12 site_9 (wordsPV tri) :=
 L.done mixed tabOk (n:=120) (ns:=[1,3,1]) (tr:=[.auto,.reg [],.dec false,.frzT 5 ((site_9:List UInt32).map wordPV),.reg [.none,(.pv (wordsPV tri))]]) (cj (dltN_f h1) (cj (o_frz sz_word (site_9:List UInt32) h2) (cj h3 True.intro))) (by kernel_rfl)
end integer_down
namespace integer_word
theorem e0(m:List UInt32)(i:Int)(k:Nat)(v:UInt32)(h1:i<(m.length:Int))(h2:i=(k:Int))(h3:m[k]? = some v):Contract prg 164 [(wordsPV m),(vI i)] (vU v.toNat) :=
 Contract.ofL Tryz.func164 (by kernel_rfl) (L.done mixed tabOk (n:=84) (ns:=[1,1,3,1]) (tr:=[.reg [],.reg [.none,.none,(iI (m.length:Int))],.dec true,.reg [.none,.none,(.row k (wordPV v)),.none,(iU v.toNat)]]) (cj (o_len wordPV m) (cj (dlt_t h1) (cj (o_at wordPV h2 h3) (cj (cv_w v) True.intro)))) (by kernel_rfl))
theorem e1(m:List UInt32)(i:Int)(h1:(m.length:Int)≤i):Contract prg 164 [(wordsPV m),(vI i)] (vU 0) :=
 Contract.ofL Tryz.func164 (by kernel_rfl) (L.done mixed tabOk (n:=87) (ns:=[1,1]) (tr:=[.reg [],.reg [.none,.none,(iI (m.length:Int))],.dec false,.reg []]) (cj (o_len wordPV m) (cj (dlt_f h1) True.intro)) (by kernel_rfl))
end integer_word
namespace math_bits_Len32
theorem e0(x z z1:UInt32)(m b:Nat)(h1:65536≤x.toNat)(h2:x.toNat/2^(min 16 32)=z.toNat)(h3:256≤z.toNat)(h4:z.toNat/2^(min 8 32)=z1.toNat)(h5:z1.toNat%256=m)(h6:((ByteArray.mk #[0,1,2,2,3,3,3,3,4,4,4,4,4,4,4,4,5,5,5,5,5,5,5,5,5,5,5,5,5,5,5,5,6,6,6,6,6,6,6,6,6,6,6,6,6,6,6,6,6,6,6,6,6,6,6,6,6,6,6,6,6,6,6,6,7,7,7,7,7,7,7,7,7,7,7,7,7,7,7,7,7,7,7,7,7,7,7,7,7,7,7,7,7,7,7,7,7,7,7,7,7,7,7,7,7,7,7,7,7,7,7,7,7,7,7,7,7,7,7,7,7,7,7,7,7,7,7,7,8,8,8,8,8,8,8,8,8,8,8,8,8,8,8,8,8,8,8,8,8,8,8,8,8,8,8,8,8,8,8,8,8,8,8,8,8,8,8,8,8,8,8,8,8,8,8,8,8,8,8,8,8,8,8,8,8,8,8,8,8,8,8,8,8,8,8,8,8,8,8,8,8,8,8,8,8,8,8,8,8,8,8,8,8,8,8,8,8,8,8,8,8,8,8,8,8,8,8,8,8,8,8,8,8,8,8,8,8,8,8,8,8,8,8,8,8,8,8,8,8,8,8,8,8,8,8,8]).data.toList[m]?).map (fun b=>(b.toNat:Int))=some (b:Int))(h7:b<9223372036854775808)(h8:(24+b)<9223372036854775808):Contract prg 177 [(vW x)] (vI (((24+b):Nat):Int)) :=
 Contract.ofL Tryz.func177 (by kernel_rfl) (L.done mixed tabOk (n:=114) (ns:=[1,1,1,1,1,2,1,1]) (tr:=[.reg [],.reg [],.dec true,.reg [.none,(iW z)],.reg [],.reg [],.dec true,.reg [.none,(iW z1)],.reg [],.reg [.none,.none,(.pv (.int .u8 (m:Int))),(.row m [.int .u8 (b:Int)]),(iI (b:Int)),(iI (((24+b):Nat):Int))]]) (cj (dleN_t h1) (cj (bs_shr_u32 (k := .u64) h2) (cj (dleN_t h3) (cj (bs_shr_u32 (k := .u64) h4) (cj (cv_u8N h5) (cj (cj (Eq.refl (((m:Nat):Int):Int)) h6) (cj (cv_i64N h7) (cj (bs_addN h8) True.intro)))))))) (by kernel_rfl))
theorem e1(x z:UInt32)(m b:Nat)(h1:65536≤x.toNat)(h2:x.toNat/2^(min 16 32)=z.toNat)(h3:z.toNat<256)(h4:z.toNat%256=m)(h5:((ByteArray.mk #[0,1,2,2,3,3,3,3,4,4,4,4,4,4,4,4,5,5,5,5,5,5,5,5,5,5,5,5,5,5,5,5,6,6,6,6,6,6,6,6,6,6,6,6,6,6,6,6,6,6,6,6,6,6,6,6,6,6,6,6,6,6,6,6,7,7,7,7,7,7,7,7,7,7,7,7,7,7,7,7,7,7,7,7,7,7,7,7,7,7,7,7,7,7,7,7,7,7,7,7,7,7,7,7,7,7,7,7,7,7,7,7,7,7,7,7,7,7,7,7,7,7,7,7,7,7,7,7,8,8,8,8,8,8,8,8,8,8,8,8,8,8,8,8,8,8,8,8,8,8,8,8,8,8,8,8,8,8,8,8,8,8,8,8,8,8,8,8,8,8,8,8,8,8,8,8,8,8,8,8,8,8,8,8,8,8,8,8,8,8,8,8,8,8,8,8,8,8,8,8,8,8,8,8,8,8,8,8,8,8,8,8,8,8,8,8,8,8,8,8,8,8,8,8,8,8,8,8,8,8,8,8,8,8,8,8,8,8,8,8,8,8,8,8,8,8,8,8,8,8,8,8,8,8,8,8]).data.toList[m]?).map (fun b=>(b.toNat:Int))=some (b:Int))(h6:b<9223372036854775808)(h7:(16+b)<9223372036854775808):Contract prg 177 [(vW x)] (vI (((16+b):Nat):Int)) :=
 Contract.ofL Tryz.func177 (by kernel_rfl) (L.done mixed tabOk (n:=108) (ns:=[1,1,1,1,2,1,1]) (tr:=[.reg [],.reg [],.dec true,.reg [.none,(iW z)],.reg [],.reg [],.dec false,.reg [.none,.none,(.pv (.int .u8 (m:Int))),(.row m [.int .u8 (b:Int)]),(iI (b:Int)),(iI (((16+b):Nat):Int))]]) (cj (dleN_t h1) (cj (bs_shr_u32 (k := .u64) h2) (cj (dleN_f h3) (cj (cv_u8N h4) (cj (cj (Eq.refl (((m:Nat):Int):Int)) h5) (cj (cv_i64N h6) (cj (bs_addN h7) True.intro))))))) (by kernel_rfl))
theorem e2(x z:UInt32)(m b:Nat)(h1:x.toNat<65536)(h2:256≤x.toNat)(h3:x.toNat/2^(min 8 32)=z.toNat)(h4:z.toNat%256=m)(h5:((ByteArray.mk #[0,1,2,2,3,3,3,3,4,4,4,4,4,4,4,4,5,5,5,5,5,5,5,5,5,5,5,5,5,5,5,5,6,6,6,6,6,6,6,6,6,6,6,6,6,6,6,6,6,6,6,6,6,6,6,6,6,6,6,6,6,6,6,6,7,7,7,7,7,7,7,7,7,7,7,7,7,7,7,7,7,7,7,7,7,7,7,7,7,7,7,7,7,7,7,7,7,7,7,7,7,7,7,7,7,7,7,7,7,7,7,7,7,7,7,7,7,7,7,7,7,7,7,7,7,7,7,7,8,8,8,8,8,8,8,8,8,8,8,8,8,8,8,8,8,8,8,8,8,8,8,8,8,8,8,8,8,8,8,8,8,8,8,8,8,8,8,8,8,8,8,8,8,8,8,8,8,8,8,8,8,8,8,8,8,8,8,8,8,8,8,8,8,8,8,8,8,8,8,8,8,8,8,8,8,8,8,8,8,8,8,8,8,8,8,8,8,8,8,8,8,8,8,8,8,8,8,8,8,8,8,8,8,8,8,8,8,8,8,8,8,8,8,8,8,8,8,8,8,8,8,8,8,8,8,8]).data.toList[m]?).map (fun b=>(b.toNat:Int))=some (b:Int))(h6:b<9223372036854775808)(h7:(8+b)<9223372036854775808):Contract prg 177 [(vW x)] (vI (((8+b):Nat):Int)) :=
 Contract.ofL Tryz.func177 (by kernel_rfl) (L.done mixed tabOk (n:=108) (ns:=[1,1,1,1,2,1,1]) (tr:=[.reg [],.reg [],.dec false,.reg [],.dec true,.reg [.none,(iW z)],.reg [],.reg [.none,.none,(.pv (.int .u8 (m:Int))),(.row m [.int .u8 (b:Int)]),(iI (b:Int)),(iI (((8+b):Nat):Int))]]) (cj (dleN_f h1) (cj (dleN_t h2) (cj (bs_shr_u32 (k := .u64) h3) (cj (cv_u8N h4) (cj (cj (Eq.refl (((m:Nat):Int):Int)) h5) (cj (cv_i64N h6) (cj (bs_addN h7) True.intro))))))) (by kernel_rfl))
theorem e3(x:UInt32)(m b:Nat)(h1:x.toNat<65536)(h2:x.toNat<256)(h3:x.toNat%256=m)(h4:((ByteArray.mk #[0,1,2,2,3,3,3,3,4,4,4,4,4,4,4,4,5,5,5,5,5,5,5,5,5,5,5,5,5,5,5,5,6,6,6,6,6,6,6,6,6,6,6,6,6,6,6,6,6,6,6,6,6,6,6,6,6,6,6,6,6,6,6,6,7,7,7,7,7,7,7,7,7,7,7,7,7,7,7,7,7,7,7,7,7,7,7,7,7,7,7,7,7,7,7,7,7,7,7,7,7,7,7,7,7,7,7,7,7,7,7,7,7,7,7,7,7,7,7,7,7,7,7,7,7,7,7,7,8,8,8,8,8,8,8,8,8,8,8,8,8,8,8,8,8,8,8,8,8,8,8,8,8,8,8,8,8,8,8,8,8,8,8,8,8,8,8,8,8,8,8,8,8,8,8,8,8,8,8,8,8,8,8,8,8,8,8,8,8,8,8,8,8,8,8,8,8,8,8,8,8,8,8,8,8,8,8,8,8,8,8,8,8,8,8,8,8,8,8,8,8,8,8,8,8,8,8,8,8,8,8,8,8,8,8,8,8,8,8,8,8,8,8,8,8,8,8,8,8,8,8,8,8,8,8,8]).data.toList[m]?).map (fun b=>(b.toNat:Int))=some (b:Int))(h5:b<9223372036854775808)(h6:(0+b)<9223372036854775808):Contract prg 177 [(vW x)] (vI (((0+b):Nat):Int)) :=
 Contract.ofL Tryz.func177 (by kernel_rfl) (L.done mixed tabOk (n:=102) (ns:=[1,1,1,2,1,1]) (tr:=[.reg [],.reg [],.dec false,.reg [],.dec false,.reg [.none,.none,(.pv (.int .u8 (m:Int))),(.row m [.int .u8 (b:Int)]),(iI (b:Int)),(iI (((0+b):Nat):Int))]]) (cj (dleN_f h1) (cj (dleN_f h2) (cj (cv_u8N h3) (cj (cj (Eq.refl (((m:Nat):Int):Int)) h4) (cj (cv_i64N h5) (cj (bs_addN h6) True.intro)))))) (by kernel_rfl))
end math_bits_Len32
end Go.Proofs.YtboilcfohmmpbaaGreatDoor.Sym.Path
namespace Go.Proofs.YtboilcfohmmpbaaGreatDoor.Sym
open Go Path
abbrev Fit(l:Words):Prop:=l.length≤1099511627776
def AWhole.valid(a:AWhole):Bool:=bif a.mag.isEmpty then !a.neg else cn a.mag
def AWhole.val(a:AWhole):Int:=bif a.valid then (bif a.neg then -(nat a.mag:Int) else (nat a.mag:Int)) else 0
def whole(i:Int):AWhole:=⟨decide (i<0),words i.natAbs⟩
theorem whole_val(i:Int):(whole i).val=i:=by
 unfold AWhole.val AWhole.valid whole
 simp only[nat_words]
 by_cases h:i=0
 ·subst h;rfl
 ·have h1:(words i.natAbs).isEmpty=false:=by
   rw[List.isEmpty_eq_false_iff]
   intro e
   rw[words_nil] at e
   omega
  rw[h1]
  simp only[cond_false,cn_words,cond_true]
  by_cases h2:i<0
  ·simp[h2];omega
  ·simp[h2];omega
theorem isEmpty_len{l:Words} : l.isEmpty=decide (l.length=0):=by cases l<;>simp
namespace CInt
theorem Valid(a:AWhole)(h:Fit a.mag):Contract prg 133 [a.pv] (vB a.valid):=by
 unfold AWhole.valid
 rw[isEmpty_len]
 by_cases h0:a.mag.length=0
 ·simp only[h0,decide_true,cond_true]
  exact integer_Valid.e0 a h0
 ·simp only[h0,decide_false,cond_false]
  obtain⟨v,hv⟩:∃v,a.mag[a.mag.length-1]? = some v:=⟨_,List.getElem?_eq_getElem (by omega)⟩
  have:=integer_Valid.e1 a (a.mag.length-1) v h0 (by unfold InI64;omega) (by omega) hv
  have e:cn a.mag=((v.toNat:Int) != 0):=by
   have h1:=cn_last hv
   by_cases h2:v.toNat=0
   ·have h3:((v.toNat:Int) != 0)=false:=by simp[h2]
    rw[h3]
    cases hc:cn a.mag with
    |true=>exact absurd h2 (h1.1 hc)
    |false=>rfl
   ·have h3:((v.toNat:Int) != 0)=true:=by simp;omega
    rw[h3];exact h1.2 h2
  rw[e];exact this
theorem neg_val(a:AWhole):decide (a.val<0)=(a.valid&&a.neg):=by
 unfold AWhole.val
 cases hv:a.valid with
 |false=>simp
 |true =>
  cases hn:a.neg with
  |false=>simp
  |true =>
   simp only[cond_true,Bool.and_true]
   unfold AWhole.valid at hv
   have:0<nat a.mag:=by
    cases he:a.mag.isEmpty with
    |true=>rw[he,hn] at hv;cases hv
    |false =>
     rw[he] at hv
     exact cn_pos hv (by rw[←List.isEmpty_eq_false_iff];exact he)
   simp;omega
theorem mag_val(a:AWhole):words a.val.natAbs=bif a.valid then a.mag else []:=by
 unfold AWhole.val
 cases hv:a.valid with
 |false=>rfl
 |true =>
  have hc:cn a.mag=true:=by
   unfold AWhole.valid at hv
   cases he:a.mag.isEmpty with
   |true=>rw[List.isEmpty_iff] at he;rw[he];rfl
   |false=>rw[he] at hv;exact hv
  cases hn:a.neg with
  |false=>simp only[cond_true,cond_false,Int.natAbs_natCast];exact words_nat hc
  |true=>simp only[cond_true,Int.natAbs_neg,Int.natAbs_natCast];exact words_nat hc
theorem mag(a:AWhole)(h:Fit a.mag):Contract prg 110 [a.pv] (wordsPV (words a.val.natAbs)):=by
 rw[mag_val]
 cases hv:a.valid with
 |false=>exact integer_mag.e0 a a.valid (Valid a h) hv
 |true=>exact integer_mag.e1 a a.valid (Valid a h) hv
theorem neg(a:AWhole)(h:Fit a.mag):Contract prg 109 [a.pv] (vB (decide (a.val<0))):=by
 rw[neg_val]
 cases hv:a.valid with
 |false=>exact integer_neg.e1 a a.valid (Valid a h) hv
 |true=>rw[Bool.true_and];exact integer_neg.e0 a a.valid (Valid a h) hv
theorem trim(m:Words)(h:m.length≤35184372088832):Contract prg 141 [wordsPV m] (wordsPV (words (nat m))):=by
 have loop:∀n:Nat,n≤m.length→nat (m.take n)=nat m→integer_trim.Loop1 m (n:Int) (wordsPV (words (nat m))):=by
  intro n
  induction n with
  |zero =>
   intro _ h2
   have:nat m=0:=by rw[←h2];rfl
   rw[this,words_zero]
   exact integer_trim.l13 m _ (by omega) rfl
  |succ n ih =>
   intro h1 h2
   obtain⟨v,hv⟩:∃v,m[n]? = some v:=⟨_,List.getElem?_eq_getElem (by omega)⟩
   by_cases h0:v.toNat=0
   ·refine integer_trim.l10 m _ n v (by omega) (by unfold InI64;omega) (by omega) hv h0 ?_
    rw[show ((n+1:Nat):Int)-1=(n:Int) from by omega]
    refine ih (by omega) ?_
    rw[nat_take_succ hv,h0] at h2
    simpa using h2
   ·have:=integer_trim.l12 m ((n+1:Nat):Int) n v (n+1) (by omega) (by unfold InI64;omega) (by omega) hv h0 (by omega) rfl h1 (by simp;omega)
    have e:words (nat m)=m.take (n+1):=by
     refine words_of ?_ h2
     refine(cn_last (v:=v) ?_).2 h0
     rw[List.length_take,Nat.min_eq_left h1,Nat.add_sub_cancel,List.getElem?_take,if_pos (by omega)]
     exact hv
    rw[e];exact this
 exact integer_trim.e0 m (loop m.length (Nat.le_refl _) (nat_take_all (Nat.le_refl _)))
theorem whole(neg:Bool)(m:Words)(h:m.length≤35184372088832):Contract prg 108 [vB neg,wordsPV m] (whole (bif neg then -(nat m:Int) else (nat m:Int))).pv:=by
 cases neg with
 |false =>
  have:=integer_whole.e1 false m _ (trim m h) rfl
  have e:decide ((nat m:Int)<0)=false:=by simp
  simp only[Sym.whole,cond_false,e,Int.natAbs_natCast]
  exact this
 |true =>
  have:=integer_whole.e0 true m _ (trim m h) rfl
  have e:decide (((words (nat m)).length:Int)>0)=decide (-(nat m:Int)<0):=by
   have:=words_len0 (n:=nat m)
   by_cases h0:nat m=0
   ·have h1:=this.2 h0
    simp[h0,words_zero]
   ·have h1:¬(words (nat m)).length=0:=fun h=>h0 (this.1 h)
    rw[decide_eq_true (by omega),decide_eq_true (by omega)]
  rw[e] at this
  simpa[Sym.whole] using this
def wd(m:Words)(i:Nat):Nat:=match m[i]? with
 |some w=>w.toNat
 |none=>0
theorem wd_lt(m:Words)(i:Nat):wd m i<4294967296:=by
 unfold wd
 cases m[i]? with
 |none=>simp
 |some w=>exact w_lt w
theorem wd_some{m:Words}{i:Nat}{v:UInt32}(h:m[i]? = some v):wd m i=v.toNat:=by unfold wd;rw[h]
theorem wd_none{m:Words}{i:Nat}(h:m.length≤i):wd m i=0:=by unfold wd;rw[List.getElem?_eq_none h]
theorem nat_take_wd(m:Words)(k:Nat):nat (m.take (k+1))=nat (m.take k)+4294967296^k*wd m k:=by
 by_cases h:k<m.length
 ·have hv:=List.getElem?_eq_getElem h
  rw[nat_take_succ hv,wd_some hv]
 ·rw[nat_take_all (by omega),nat_take_all (by omega),wd_none (by omega)]
  omega
theorem word(m:Words)(i:Nat):Contract prg 164 [wordsPV m,vI (i:Int)] (vU (wd m i)):=by
 unfold wd
 cases h:m[i]? with
 |none =>
  have:=List.getElem?_eq_none_iff.1 h
  exact integer_word.e1 m i (by omega)
 |some v =>
  have:=(List.getElem?_eq_some_iff.1 h).1
  exact integer_word.e0 m i i v (by omega) rfl h
theorem plus(a b:Words)(ha:a.length≤2199023255552)(hb:b.length≤2199023255552):Contract prg 139 [wordsPV a,wordsPV b] (wordsPV (words (nat a+nat b))):=by
 have hm:max a.length b.length≤2199023255552:=by omega
 have loop:∀(j t carry:Nat) (site:Words),max a.length b.length+1-t=j→t≤max a.length b.length+1→site.length=max a.length b.length+1→carry≤1 →
   nat (site.take t)+4294967296^t*carry=nat (a.take t)+nat (b.take t)→integer_plus.Loop1 a b carry t site (wordsPV (words (nat a+nat b))):=by
  intro j
  induction j with
  |zero =>
   intro t carry site hj ht hs hc hinv
   have hte:t=max a.length b.length+1:=by omega
   have hnat:nat site=nat a+nat b:=by
    rw[nat_take_all (by omega),nat_take_all (by omega),nat_take_all (by omega)] at hinv
    have h1:=nat_lt a
    have h2:=nat_lt b
    have h3:=pow_le (show a.length≤t-1 by omega)
    have h4:=pow_le (show b.length≤t-1 by omega)
    have h5:(4294967296:Nat)^t=4294967296^(t-1)*4294967296:=by rw[←Nat.pow_succ];congr 1;omega
    have hc0:carry=0:=by
     cases carry with
     |zero=>rfl
     |succ c =>
      have h6:4294967296^t*1≤4294967296^t*(c+1):=Nat.mul_le_mul_left _ (by omega)
      omega
    subst hc0;simpa using hinv
   have:=integer_plus.l11 a b carry t site (words (nat site)) (by omega) (by omega) (trim site (by omega))
   rwa[hnat] at this
  |succ j ih =>
   intro t carry site hj ht hs hc hinv
   have h1:=wd_lt a t
   have h2:=wd_lt b t
   obtain⟨w,hw⟩:=w_ex ((carry+(wd a t+wd b t))%4294967296) (by omega)
   refine integer_plus.l10 a b carry t site _ _ (wd a t+wd b t) (carry+(wd a t+wd b t)) w _ (by omega) (word a t) (word b t) (by omega) (by omega) hw.symm (by omega) rfl (by omega) ?_
   refine ih (t+1) _ (site.set t w) (by omega) (by omega) (by simpa using hs) (by simp;omega) ?_
   rw[nat_take_set (by omega),nat_take_wd a t,nat_take_wd b t,hw]
   have h5:(4294967296:Nat)^(t+1)=4294967296^t*4294967296:=Nat.pow_succ ..
   rw[h5,Nat.mul_assoc]
   have h6:4294967296^t*((carry+(wd a t+wd b t))%4294967296)+4294967296^t*(4294967296*((carry+(wd a t+wd b t))/2^min 32 64))=4294967296^t*carry+4294967296^t*wd a t+4294967296^t*wd b t:=by
    rw[←Nat.mul_add,←Nat.mul_add,←Nat.mul_add]
    congr 1
    have:(2:Nat)^min 32 64=4294967296:=by decide
    rw[this];omega
   omega
 exact integer_plus.e0 a b (by omega) (by omega) (loop _ 0 0 _ rfl (by omega) (by simp) (by omega) (by simp[nat]))
end CInt
end Go.Proofs.YtboilcfohmmpbaaGreatDoor.Sym
namespace Go.Proofs.YtboilcfohmmpbaaGreatDoor.Sym
open Go Path
def cmpI(a b:Int):Int:=if a<b then -1 else if a=b then 0 else 1
theorem cmpI_lt{a b:Int}(h:a<b):cmpI a b = -1:=by simp[cmpI,h]
theorem cmpI_gt{a b:Int}(h:b<a):cmpI a b=1:=by unfold cmpI;rw[if_neg (by omega),if_neg (by omega)]
theorem cmpI_eq{a b:Int}(h:a=b):cmpI a b=0:=by unfold cmpI;rw[if_neg (by omega),if_pos h]
theorem nat_three(l:Words)(k:Nat){v:UInt32}(h:l[k]? = some v):nat l=nat (l.take k)+4294967296^k*v.toNat+4294967296^(k+1)*nat (l.drop (k+1)):=by
 have hk:=(List.getElem?_eq_some_iff.1 h).1
 rw[nat_split l k (by omega),nat_drop h,Nat.pow_succ,Nat.mul_add,Nat.mul_assoc]
 omega
theorem nat_cmp_lt{a b:Words}{k:Nat}{v w:UInt32}(ha:a[k]? = some v)(hb:b[k]? = some w)(hd:a.drop (k+1)=b.drop (k+1))(h:v.toNat<w.toNat):nat a<nat b:=by
 rw[nat_three a k ha,nat_three b k hb,hd]
 have h1:=nat_lt (a.take k)
 have h2:=pow_le (show (a.take k).length≤k by simp;omega)
 have h3:4294967296^k*(v.toNat+1)≤4294967296^k*w.toNat:=Nat.mul_le_mul_left _ h
 rw[Nat.mul_add] at h3
 omega
namespace CInt
theorem compare(a b:Words)(ha:cn a=true)(hb:cn b=true)(hl:a.length<9223372036854775808):Contract prg 111 [wordsPV a,wordsPV b] (vI (cmpI (nat a) (nat b))):=by
 by_cases hlen:a.length=b.length
 ·have loop:∀n:Nat,n≤a.length→a.drop n=b.drop n→integer_compare.Loop1 a b ((n:Int)-1) (vI (cmpI (nat a) (nat b))):=by
   intro n
   induction n with
   |zero =>
    intro _ hd
    have:a=b:=by simpa using hd
    rw[cmpI_eq (by rw[this])]
    exact integer_compare.l13 a b _ (by omega)
   |succ n ih =>
    intro hn hd
    obtain⟨v,hv⟩:∃v,a[n]? = some v:=⟨_,List.getElem?_eq_getElem (by omega)⟩
    obtain⟨w,hw⟩:∃w,b[n]? = some w:=⟨_,List.getElem?_eq_getElem (by omega)⟩
    by_cases he:v.toNat=w.toNat
    ·refine integer_compare.l12 a b _ n v n w (by omega) (by omega) hv (by omega) hw he (by unfold InI64;omega) ?_
     rw[show ((n+1:Nat):Int)-1-1=(n:Int)-1 from by omega]
     refine ih (by omega) ?_
     have h1:=List.getElem_of_getElem? hv
     obtain⟨h1,h2⟩:=List.getElem?_eq_some_iff.1 hv
     obtain⟨h3,h4⟩:=List.getElem?_eq_some_iff.1 hw
     rw[List.drop_eq_getElem_cons h1,List.drop_eq_getElem_cons h3,h2,h4,hd,w_eq he]
    ·by_cases hlt:v.toNat<w.toNat
     ·rw[cmpI_lt (by have:=nat_cmp_lt hv hw hd hlt;omega)]
      exact integer_compare.l10 a b _ n v n w n v n w (by omega) (by omega) hv (by omega) hw he (by omega) hv (by omega) hw hlt
     ·rw[cmpI_gt (by have:=nat_cmp_lt hw hv hd.symm (by omega);omega)]
      exact integer_compare.l11 a b _ n v n w n v n w (by omega) (by omega) hv (by omega) hw he (by omega) hv (by omega) hw (by omega)
  refine integer_compare.e2 a b hlen (by unfold InI64;omega) (loop a.length (Nat.le_refl _) ?_)
  rw[List.drop_of_length_le (Nat.le_refl _),List.drop_of_length_le (by omega)]
 ·have key:∀x y:Words,cn y=true→x.length<y.length→nat x<nat y:=by
   intro x y hy hlt
   have h1:=nat_lt x
   have h2:=lt_of_cn hy (by intro e;rw[e] at hlt;simp at hlt)
   have h3:=pow_le (show x.length≤y.length-1 by omega)
   omega
  by_cases hlt:a.length<b.length
  ·rw[cmpI_lt (by have:=key a b hb hlt;omega)]
   exact integer_compare.e0 a b hlen hlt
  ·rw[cmpI_gt (by have:=key b a ha (by omega);omega)]
   exact integer_compare.e1 a b hlen (by omega)
theorem less(a b:Words)(ha:a.length≤2199023255552)(hab:nat b≤nat a):Contract prg 140 [wordsPV a,wordsPV b] (wordsPV (words (nat a-nat b))):=by
 have loop:∀(j t borrow:Nat) (site:Words),a.length-t=j→t≤a.length→site.length=a.length→borrow≤1 →
   nat (site.take t)+nat (b.take t)=nat (a.take t)+4294967296^t*borrow→integer_less.Loop1 a b borrow t site (wordsPV (words (nat a-nat b))):=by
  intro j
  induction j with
  |zero =>
   intro t borrow site hj ht hs hc hinv
   have hte:t=a.length:=by omega
   have hnat:nat site=nat a-nat b:=by
    subst hte
    rw[nat_take_all (by omega),nat_take_all (l:=a) (by omega)] at hinv
    have h1:=nat_lt a
    have h2:=nat_lt site
    rw[hs] at h2
    have h3:nat (b.take a.length)=nat b:=by
     by_cases hl:b.length≤a.length
     ·exact nat_take_all hl
     ·have h4:=nat_split b a.length (by omega)
      have h5:nat (b.drop a.length)=0:=by
       refine Nat.eq_zero_of_not_pos fun hp => ?_
       have:=Nat.mul_le_mul_left (4294967296^a.length) hp
       omega
      rw[h5] at h4;omega
    have hb0:borrow=0:=by
     refine Nat.eq_zero_of_not_pos fun hp => ?_
     have:=Nat.mul_le_mul_left (4294967296^a.length) hp
     omega
    subst hb0
    omega
   have:=integer_less.l11 a b borrow t site (words (nat site)) (by omega) (by omega) (trim site (by omega))
   rwa[hnat] at this
  |succ j ih =>
   intro t borrow site hj ht hs hc hinv
   obtain⟨v,hv⟩:∃v,a[t]? = some v:=⟨_,List.getElem?_eq_getElem (by omega)⟩
   have h1:=w_lt v
   have h2:=wd_lt b t
   have hz:∃(d d1 x nb:Nat),((v.toNat:Nat)-(wd b t:Nat):Int)%18446744073709551616=(d:Int)∧((d:Nat)-(borrow:Nat):Int)%18446744073709551616=(d1:Int)∧d1%4294967296=x∧d1/2^min 63 64=nb∧nb≤1∧x<4294967296∧x+wd b t+borrow=v.toNat+4294967296*nb:=by
    refine⟨(((v.toNat:Nat)-(wd b t:Nat):Int)%18446744073709551616).toNat,((((v.toNat:Nat)-(wd b t:Nat):Int)%18446744073709551616-borrow)%18446744073709551616).toNat,_,_,by omega,by omega,rfl,rfl,?_⟩
    have e:(2:Nat)^min 63 64=9223372036854775808:=by decide
    rw[e]
    generalize wd b t=q at *
    generalize v.toNat=p at *
    by_cases hpq:q+borrow≤p
    ·have e1:(((p:Int)-(q:Int))%18446744073709551616-borrow)%18446744073709551616=(p:Int)-q-borrow:=by omega
     rw[e1];omega
    ·have e1:(((p:Int)-(q:Int))%18446744073709551616-borrow)%18446744073709551616=(p:Int)-q-borrow+18446744073709551616:=by omega
     rw[e1];omega
   obtain⟨d,d1,x,nb,g1,g2,g3,g4,g5,g6,g7⟩:=hz
   obtain⟨w,hw⟩:=w_ex x g6
   refine integer_less.l10 a b borrow t site v _ d d1 w nb (by omega) hv (word b t) g1 g2 (by omega) (by omega) g4 (by omega) ?_
   refine ih (t+1) nb (site.set t w) (by omega) (by omega) (by simpa using hs) g5 ?_
   rw[nat_take_set (by omega),nat_take_succ hv,nat_take_wd b t,hw,Nat.pow_succ,Nat.mul_assoc]
   have h6:4294967296^t*x+4294967296^t*wd b t+4294967296^t*borrow=4294967296^t*v.toNat+4294967296^t*(4294967296*nb):=by
    rw[←Nat.mul_add,←Nat.mul_add,←Nat.mul_add,g7]
   omega
 exact integer_less.e0 a b (by omega) (loop _ 0 0 _ rfl (by omega) (by simp) (by omega) (by simp[nat]))
theorem mul_word{p q:Nat}(hp:p<4294967296)(hq:q<4294967296):p*q≤18446744065119617025:=by
 have:=Nat.mul_le_mul (show p≤4294967295 by omega) (show q≤4294967295 by omega)
 omega
theorem times(a b:Words)(ha:a.length≤2199023255552)(hb:b.length≤2199023255552):Contract prg 112 [wordsPV a,wordsPV b] (wordsPV (words (nat a*nat b))):=by
 have inner:∀(i:Nat) (v:UInt32) (r:PV),i<a.length→(∀site:Words,site.length=a.length+b.length→nat site=nat (a.take i)*nat b+4294967296^i*(v.toNat*nat b)→(∀q,i+1+b.length≤q→q<site.length→wd site q=0)→integer_times.Loop1 b a (i+1) site r) →
   ∀(j k carry:Nat) (site:Words),b.length-k=j→k≤b.length→site.length=a.length+b.length→carry<4294967296→(∀q,i+b.length≤q→q<site.length→wd site q=0) →
   nat site+4294967296^(i+k)*carry=nat (a.take i)*nat b+4294967296^i*(v.toNat*nat (b.take k))→integer_times.Loop2 b a i v carry i k site r:=by
  intro i v r hi hfin j
  induction j with
  |zero =>
   intro k carry site hj hk hs hc hz hinv
   have hke:k=b.length:=by omega
   subst hke
   obtain⟨w,hw⟩:=w_ex carry hc
   refine integer_times.l21 b a i v carry i b.length site w (by omega) (by omega) (by omega) (by omega) (by omega) (by omega) (hfin _ (by simpa using hs) ?_ ?_)
   ·obtain⟨u,hu⟩:∃u,site[i+b.length]? = some u:=⟨_,List.getElem?_eq_getElem (by omega)⟩
    have h0:=hz (i+b.length) (by omega) (by omega)
    rw[wd_some hu] at h0
    have h1:=nat_set site (i+b.length) w u hu
    rw[h0,hw] at h1
    rw[nat_take_all (l:=b) (by omega)] at hinv
    omega
   ·intro q hq1 hq2
    rw[List.length_set] at hq2
    have:=hz q (by omega) hq2
    unfold wd at this ⊢
    rw[List.getElem?_set_ne (by omega)]
    exact this
  |succ j ih =>
   intro k carry site hj hk hs hc hz hinv
   obtain⟨u,hu⟩:∃u,b[k]? = some u:=⟨_,List.getElem?_eq_getElem (by omega)⟩
   obtain⟨x,hx⟩:∃x,site[i+k]? = some x:=⟨_,List.getElem?_eq_getElem (by omega)⟩
   have h1:=mul_word (w_lt v) (w_lt u)
   have h2:=w_lt x
   generalize hp:v.toNat*u.toNat=p at *
   obtain⟨w,hw⟩:=w_ex ((carry+(p+x.toNat))%4294967296) (by omega)
   have e:(2:Nat)^min 32 64=4294967296:=by decide
   refine integer_times.l20 b a i v carry i k site u p x (p+x.toNat) (carry+(p+x.toNat)) w ((carry+(p+x.toNat))/4294967296) (by omega) hu (by rw[hp];omega) (by omega) (by omega) hx (by omega) (by omega) hw.symm (by omega) (by rw[e]) (by omega) ?_
   refine ih (k+1) _ (site.set (i+k) w) (by omega) (by omega) (by simpa using hs) (by omega) ?_ ?_
   ·intro q hq1 hq2
    rw[List.length_set] at hq2
    have:=hz q hq1 hq2
    unfold wd at this ⊢
    rw[List.getElem?_set_ne (by omega)]
    exact this
   ·have g1:=nat_set site (i+k) w x hx
    rw[hw] at g1
    rw[nat_take_succ hu,show i+(k+1)=i+k+1 from rfl,Nat.pow_succ,Nat.mul_assoc]
    have g2:4294967296^(i+k)*((carry+(p+x.toNat))%4294967296)+4294967296^(i+k)*(4294967296*((carry+(p+x.toNat))/4294967296))=4294967296^(i+k)*carry+4294967296^(i+k)*p+4294967296^(i+k)*x.toNat:=by
     rw[←Nat.mul_add,←Nat.mul_add,←Nat.mul_add];congr 1;omega
    have g3:4294967296^i*(v.toNat*(nat (b.take k)+4294967296^k*u.toNat))=4294967296^i*(v.toNat*nat (b.take k))+4294967296^(i+k)*p:=by
     rw[←hp,Nat.pow_add,Nat.mul_add,Nat.mul_add]
     congr 1
     rw[Nat.mul_assoc];congr 1
     rw[Nat.mul_left_comm]
    omega
 have loop:∀(j t:Nat) (site:Words),a.length-t=j→t≤a.length→site.length=a.length+b.length→nat site=nat (a.take t)*nat b→(∀q,t+b.length≤q→q<site.length→wd site q=0) →
   integer_times.Loop1 b a t site (wordsPV (words (nat a*nat b))):=by
  intro j
  induction j with
  |zero =>
   intro t site hj ht hs hinv _
   rw[nat_take_all (by omega)] at hinv
   have:=integer_times.l11 b a t site (words (nat site)) (by omega) (by omega) (trim site (by omega))
   rwa[hinv] at this
  |succ j ih =>
   intro t site hj ht hs hinv hz
   obtain⟨v,hv⟩:∃v,a[t]? = some v:=⟨_,List.getElem?_eq_getElem (by omega)⟩
   refine integer_times.l10 b a t site v (by omega) hv ?_
   refine inner t v _ (by omega) (fun site' hs' hn' hz' => ?_) _ 0 0 site rfl (by omega) hs (by omega) hz ?_
   ·refine ih (t+1) site' (by omega) (by omega) hs' ?_ hz'
    rw[hn',nat_take_succ hv,Nat.add_mul,Nat.mul_assoc]
   ·simp[nat,hinv]
 refine integer_times.e0 a b (by omega) (by omega) (loop _ 0 _ rfl (by omega) (by simp) (by simp[nat,nat_zeros]) ?_)
 intro q _ hq
 unfold wd
 rw[List.getElem?_replicate]
 split
 ·rename_i w h
  split at h
  ·injection h with h;subst h;rfl
  ·cases h
 ·rfl
theorem or_low{x y:Nat}(hx:x<4294967296)(hy:y<4294967296):((x*4294967296)%18446744073709551616) ||| (y%18446744073709551616)=x*4294967296+y:=by
 rw[Nat.mod_eq_of_lt (by omega),Nat.mod_eq_of_lt (by omega),Nat.mul_comm]
 exact(Nat.two_pow_add_eq_or_of_lt (i:=32) hy x).symm
theorem short(a:Words)(b:UInt32)(ha:a.length≤2199023255552)(hb:b.toNat≠0):Contract prg 129 [wordsPV a,vW b] (.tup [wordsPV (words (nat a/b.toNat)),vW (UInt32.ofNat (nat a%b.toNat))]):=by
 have hbl:=w_lt b
 have loop:∀(n rest:Nat) (site:Words),n≤a.length→site.length=a.length→rest<b.toNat→nat (a.drop n)=nat (site.drop n)*b.toNat+rest →
   integer_short.Loop1 a b rest ((n:Int)-1) site (.tup [wordsPV (words (nat a/b.toNat)),vW (UInt32.ofNat (nat a%b.toNat))]):=by
  intro n
  induction n with
  |zero =>
   intro rest site _ hs hr hinv
   simp only[List.drop_zero] at hinv
   have h1:nat a/b.toNat=nat site:=by rw[hinv,Nat.mul_comm,Nat.mul_add_div (by omega),Nat.div_eq_of_lt hr,Nat.add_zero]
   have h2:nat a%b.toNat=rest:=by rw[hinv,Nat.mul_comm,Nat.mul_add_mod,Nat.mod_eq_of_lt hr]
   have hw:rest%4294967296=(UInt32.ofNat rest).toNat:=(w_ofNat rest).symm
   rw[h1,h2]
   exact integer_short.l11 a b rest _ site (words (nat site)) _ (by omega) hs.symm (trim site (by omega)) hw
  |succ n ih =>
   intro rest site hn hs hr hinv
   obtain⟨v,hv⟩:∃v,a[n]? = some v:=⟨_,List.getElem?_eq_getElem (by omega)⟩
   have hvl:=w_lt v
   have e:(2:Nat)^min 32 64=4294967296:=by decide
   have hq:(rest*4294967296+v.toNat)/b.toNat<4294967296:=by
    rw[Nat.div_lt_iff_lt_mul (by omega)]
    have:=Nat.mul_le_mul_right 4294967296 (show rest+1≤b.toNat by omega)
    rw[Nat.add_mul] at this
    rw[Nat.mul_comm 4294967296];omega
   obtain⟨w,hw⟩:=w_ex _ hq
   refine integer_short.l10 a b rest _ site _ n v (rest*4294967296+v.toNat) ((rest*4294967296+v.toNat)/b.toNat) w n ((rest*4294967296+v.toNat)%b.toNat) (by omega) rfl (by omega) hv ?_ hb (by omega) (by omega) (by omega) (by omega) (by omega) rfl (by unfold InI64;omega) ?_
   ·rw[e,Nat.mod_eq_of_lt (show rest*4294967296<18446744073709551616 by omega)]
    exact(by have:=or_low (show rest<4294967296 by omega) hvl;rw[Nat.mod_eq_of_lt (show rest*4294967296<18446744073709551616 by omega)] at this;rw[Nat.mod_eq_of_lt (show rest*4294967296<18446744073709551616 by omega)];exact this)
   ·rw[show ((n+1:Nat):Int)-1-1=(n:Int)-1 from by omega]
    refine ih _ (site.set n w) (by omega) (by simpa using hs) (Nat.mod_lt _ (by omega)) ?_
    rw[nat_drop hv,nat_drop (l:=site.set n w) (v:=w) (by rw[List.getElem?_set_self (by omega)]),List.drop_set_of_lt (by omega),hinv,hw]
    have h5:=Nat.div_add_mod (rest*4294967296+v.toNat) b.toNat
    generalize (rest*4294967296+v.toNat)/b.toNat=q at *
    generalize (rest*4294967296+v.toNat)%b.toNat=m at *
    generalize nat (site.drop (n+1))=S at *
    generalize b.toNat=B at *
    rw[Nat.add_mul,Nat.mul_add,Nat.mul_comm q B]
    rw[←Nat.mul_assoc]
    omega
 have:=integer_short.e0 a b (r:=_) (by omega) (by unfold InI64;omega) (loop a.length 0 _ (Nat.le_refl _) (by simp) (by omega) (by rw[List.drop_of_length_le (Nat.le_refl _),List.drop_of_length_le (by simp)];simp[nat]))
 exact this
end CInt
end Go.Proofs.YtboilcfohmmpbaaGreatDoor.Sym
namespace Go.Proofs.YtboilcfohmmpbaaGreatDoor.Sym
open Go Path
def blen(n:Nat):Nat:=bif Nat.beq n 0 then 0 else Nat.log2 n+1
theorem blen_eq{n k:Nat}(h1:2^k≤n)(h2:n<2^(k+1)):blen n=k+1:=by
 have h0:n≠0:=by have:=Nat.two_pow_pos k;omega
 have hb:Nat.beq n 0=false:=by
  cases hb:Nat.beq n 0 with
  |true=>exact absurd (Nat.eq_of_beq_eq_true hb) h0
  |false=>rfl
 unfold blen
 rw[hb,cond_false]
 congr 1
 have g1:=(Nat.le_log2 h0).2 h1
 have g2:=(Nat.log2_lt h0).2 h2
 omega
theorem blen_zero:blen 0=0:=rfl
theorem blen_spec{n:Nat}(h:n≠0):∃k,blen n=k+1∧2^k≤n∧n<2^(k+1):=by
 have hb:Nat.beq n 0=false:=by
  cases hb:Nat.beq n 0 with
  |true=>exact absurd (Nat.eq_of_beq_eq_true hb) h
  |false=>rfl
 refine⟨Nat.log2 n,?_,Nat.log2_self_le h,Nat.lt_log2_self⟩
 unfold blen
 rw[hb,cond_false]
theorem blen_div{n k:Nat}(h:2^k≤n):blen n=k+blen (n/2^k):=by
 have hk:=Nat.two_pow_pos k
 have h0:n/2^k≠0:=by
  have:=Nat.div_pos h hk
  omega
 obtain⟨m,h1,h2,h3⟩:=blen_spec h0
 have:=blen_eq (n:=n) (k:=k+m) (by
  rw[Nat.pow_add]
  have:=Nat.mul_le_mul_left (2^k) h2
  have:=Nat.mul_div_le n (2^k)
  omega) (by
  have h4:=(Nat.div_lt_iff_lt_mul hk).1 h3
  rw[←Nat.pow_add] at h4
  rw[show k+m+1=m+1+k from by omega]
  exact h4)
 omega
theorem blen_le{n k:Nat}(h:n<2^k):blen n≤k:=by
 by_cases h0:n=0
 ·subst h0;simp[blen_zero]
 ·obtain⟨m,h1,h2,_⟩:=blen_spec h0
  have:=(Nat.pow_lt_pow_iff_right (a:=2) (by omega)).1 (Nat.lt_of_le_of_lt h2 h)
  omega
theorem lt_blen(n:Nat):n<2^blen n:=by
 by_cases h0:n=0
 ·subst h0;simp[blen_zero]
 ·obtain⟨m,h1,_,h3⟩:=blen_spec h0
  rw[h1];exact h3
namespace CBits
def tbl:ByteArray:=(ByteArray.mk #[0,1,2,2,3,3,3,3,4,4,4,4,4,4,4,4,5,5,5,5,5,5,5,5,5,5,5,5,5,5,5,5,6,6,6,6,6,6,6,6,6,6,6,6,6,6,6,6,6,6,6,6,6,6,6,6,6,6,6,6,6,6,6,6,7,7,7,7,7,7,7,7,7,7,7,7,7,7,7,7,7,7,7,7,7,7,7,7,7,7,7,7,7,7,7,7,7,7,7,7,7,7,7,7,7,7,7,7,7,7,7,7,7,7,7,7,7,7,7,7,7,7,7,7,7,7,7,7,8,8,8,8,8,8,8,8,8,8,8,8,8,8,8,8,8,8,8,8,8,8,8,8,8,8,8,8,8,8,8,8,8,8,8,8,8,8,8,8,8,8,8,8,8,8,8,8,8,8,8,8,8,8,8,8,8,8,8,8,8,8,8,8,8,8,8,8,8,8,8,8,8,8,8,8,8,8,8,8,8,8,8,8,8,8,8,8,8,8,8,8,8,8,8,8,8,8,8,8,8,8,8,8,8,8,8,8,8,8,8,8,8,8,8,8,8,8,8,8,8,8,8,8,8,8,8,8])
theorem tbl_all:(List.range 256).all (fun m=>((tbl.data.toList[m]?).map fun b=>(b.toNat:Int))==some (blen m:Int))=true:=by decide +kernel
theorem tbl_at{m:Nat}(h:m<256):((tbl.data.toList[m]?).map fun b=>(b.toNat:Int))=some (blen m:Int):=by
 have:=tbl_all
 rw[List.all_eq_true] at this
 simpa using this m (by simpa using h)
theorem Len32(x:UInt32):Contract prg 177 [vW x] (vI (blen x.toNat)):=by
 have hx:=w_lt x
 have e16:(2:Nat)^min 16 32=65536:=by decide
 have e8:(2:Nat)^min 8 32=256:=by decide
 by_cases h1:65536≤x.toNat
 ·obtain⟨z,hz⟩:=w_ex (x.toNat/65536) (by omega)
  have b1:=blen_div (n:=x.toNat) (k:=16) h1
  rw[show (2:Nat)^16=65536 from rfl] at b1
  by_cases h2:256≤x.toNat/65536
  ·obtain⟨z1,hz1⟩:=w_ex (x.toNat/65536/256) (by omega)
   have b2:=blen_div (n:=x.toNat/65536) (k:=8) h2
   rw[show (2:Nat)^8=256 from rfl] at b2
   have b3:=blen_le (n:=x.toNat/65536/256) (k:=8) (by rw[show (2:Nat)^8=256 from rfl];omega)
   have:=math_bits_Len32.e0 x z z1 (x.toNat/65536/256) (blen (x.toNat/65536/256)) h1 (by rw[e16,hz]) (by omega) (by rw[e8,hz1,hz]) (by omega) (tbl_at (by omega)) (by omega) (by omega)
   rw[b1,b2,←Nat.add_assoc];exact this
  ·have b3:=blen_le (n:=x.toNat/65536) (k:=8) (by rw[show (2:Nat)^8=256 from rfl];omega)
   have:=math_bits_Len32.e1 x z (x.toNat/65536) (blen (x.toNat/65536)) h1 (by rw[e16,hz]) (by omega) (by omega) (tbl_at (by omega)) (by omega) (by omega)
   rw[b1];exact this
 ·by_cases h2:256≤x.toNat
  ·obtain⟨z,hz⟩:=w_ex (x.toNat/256) (by omega)
   have b1:=blen_div (n:=x.toNat) (k:=8) h2
   rw[show (2:Nat)^8=256 from rfl] at b1
   have b3:=blen_le (n:=x.toNat/256) (k:=8) (by rw[show (2:Nat)^8=256 from rfl];omega)
   have:=math_bits_Len32.e2 x z (x.toNat/256) (blen (x.toNat/256)) (by omega) h2 (by rw[e8,hz]) (by omega) (tbl_at (by omega)) (by omega) (by omega)
   rw[b1];exact this
  ·have b3:=blen_le (n:=x.toNat) (k:=8) (by rw[show (2:Nat)^8=256 from rfl];omega)
   have:=math_bits_Len32.e3 x x.toNat (blen x.toNat) (by omega) (by omega) (by omega) (tbl_at (by omega)) (by omega) (by omega)
   rw[Nat.zero_add] at this;exact this
theorem LeadingZeros32(x:UInt32):Contract prg 159 [vW x] (vI ((32-blen x.toNat:Nat):Int)):=by
 have h:=blen_le (n:=x.toNat) (k:=32) (w_lt x)
 have:=math_bits_LeadingZeros32.e0 x _ (Len32 x) (by unfold InI64;omega)
 rw[show ((32-blen x.toNat:Nat):Int)=32-(blen x.toNat:Int) from by omega]
 exact this
end CBits
theorem two_split{s:Nat}(hs:s≤32):2^s*2^(32-s)=4294967296:=by
 rw[←Nat.pow_add,show s+(32-s)=32 from by omega]
namespace CInt
theorem up_step{v1 v:Nat}{s:Nat}(hs:s<32)(h1:v1<2^s)(hv:v<4294967296) :
  ∃y w z x,(v*2^min s 64)%18446744073709551616=y∧y%4294967296=w∧(v1%4294967296) ||| (w%4294967296)=z∧z<4294967296∧y/4294967296=x∧x<2^s∧w<4294967296∧z+4294967296*x=v1+v*2^s:=by
 have e:=two_split (show s≤32 by omega)
 have hp:=Nat.two_pow_pos s
 have hle:2^s≤2147483648:=by
  have:=Nat.pow_le_pow_right (n:=2) (by omega) (show s≤31 by omega)
  simpa using this
 have hmin:min s 64=s:=by omega
 rw[hmin]
 have hb:v*2^s<18446744073709551616:=by
  have:=Nat.mul_le_mul (show v≤4294967295 by omega) hle
  omega
 rw[Nat.mod_eq_of_lt hb]
 generalize hP:2^s=p at *
 generalize hQ:2^(32-s)=q at *
 have hw:(v*p)%4294967296=p*(v%q):=by rw[←e,Nat.mul_comm v p,Nat.mul_mod_mul_left]
 have hx:(v*p)/4294967296=v/q:=by rw[←e,Nat.mul_comm v p,Nat.mul_div_mul_left _ _ hp]
 have hq:0<q:=by rw[←hQ];exact Nat.two_pow_pos _
 have hm:=Nat.mod_lt v hq
 have hlt:p*(v%q)+p≤4294967296:=by
  have:=Nat.mul_le_mul_left p (show v%q+1≤q by omega)
  rw[Nat.mul_add,e] at this;omega
 have hor:v1 ||| p*(v%q)=p*(v%q)+v1:=by
  rw[Nat.or_comm]
  subst hP
  exact(Nat.two_pow_add_eq_or_of_lt h1 (v%q)).symm
 refine⟨_,_,_,_,rfl,rfl,rfl,?_,rfl,?_,by omega,?_⟩
 ·rw[hw,Nat.mod_eq_of_lt (show v1<4294967296 by omega),Nat.mod_eq_of_lt (show p*(v%q)<4294967296 by omega),hor];omega
 ·rw[hx,Nat.div_lt_iff_lt_mul hq,e];exact hv
 ·rw[hw,Nat.mod_eq_of_lt (show v1<4294967296 by omega),Nat.mod_eq_of_lt (show p*(v%q)<4294967296 by omega),hor,hx]
  have:=Nat.div_add_mod v q
  have h3:p*v=p*(q*(v/q))+p*(v%q):=by rw[←Nat.mul_add,this]
  rw[←Nat.mul_assoc,e] at h3
  rw[Nat.mul_comm v p];omega
def UpTo(a:Words)(s t:Nat)(site:Words):Prop:=site.length=a.length+1∧nat site=nat (a.take t)*2^s∧(∀q,t<q→q<site.length→wd site q=0)∧wd site t<2^s
theorem up_next{a:Words}{s t:Nat}{site:Words}{v v1 z x:UInt32}(hi:UpTo a s t site)(ht:t<a.length)(hv:a[t]? = some v)(hv1:site[t]? = some v1)(hx:x.toNat<2^s)(he:z.toNat+4294967296*x.toNat=v1.toNat+v.toNat*2^s) :
  UpTo a s (t+1) ((site.set t z).set (t+1) x):=by
 obtain⟨h1,h2,h3,h4⟩:=hi
 refine⟨by simpa using h1,?_,fun q hq1 hq2 => ?_,?_⟩
 ·obtain⟨u,hu⟩:∃u,(site.set t z)[t+1]? = some u:=⟨_,List.getElem?_eq_getElem (by simp;omega)⟩
  have hu0:u.toNat=0:=by
   have:=h3 (t+1) (by omega) (by omega)
   rw[List.getElem?_set_ne (by omega)] at hu
   rw[wd_some hu] at this;exact this
  have g1:=nat_set site t z v1 hv1
  have g2:=nat_set (site.set t z) (t+1) x u hu
  rw[hu0,Nat.mul_zero,Nat.add_zero,Nat.pow_succ,Nat.mul_assoc] at g2
  rw[nat_take_succ hv,Nat.add_mul,←h2]
  have g3:4294967296^t*z.toNat+4294967296^t*(4294967296*x.toNat)=4294967296^t*v1.toNat+4294967296^t*v.toNat*2^s:=by
   rw[←Nat.mul_add,he,Nat.mul_add,Nat.mul_assoc]
  omega
 ·rw[List.length_set,List.length_set] at hq2
  have:=h3 q (by omega) hq2
  unfold wd at this ⊢
  rw[List.getElem?_set_ne (by omega),List.getElem?_set_ne (by omega)]
  exact this
 ·rw[wd_some (v:=x) (by rw[List.getElem?_set_self (by simp;omega)])];exact hx
theorem up_zero(a:Words)(s:Nat):UpTo a s 0 (List.replicate (a.length+1) (0:UInt32)):=by
 refine⟨by simp,by simp[nat,nat_zeros],fun q _ hq => ?_,?_⟩
 ·unfold wd
  rw[List.getElem?_replicate]
  rw[List.length_replicate] at hq
  rw[if_pos hq];rfl
 ·unfold wd
  rw[List.getElem?_replicate,if_pos (by omega)]
  exact Nat.two_pow_pos s
theorem up(a:Words)(s:Nat)(ha:a.length≤2199023255552)(hs:s<32):∃z:Words,z.length=a.length+1∧nat z=nat a*2^s∧Contract prg 160 [wordsPV a,vI (s:Int)] (wordsPV z) ∧
  ContractX prg 160 [.pv (wordsPV a),.pv (vI (s:Int))] [] (.row 0 0 (a.length+1) 1) [(0,(.pure ((z:List UInt32).map wordPV).flatten))]:=by
 have loop:∀(j t:Nat) (site:Words),a.length-t=j→t≤a.length→UpTo a s t site →
   ∃z:Words,z.length=a.length+1∧nat z=nat a*2^s∧integer_up.Loop1 (s:Int) a t site (wordsPV z)∧integer_upX.Loop1 (s:Int) a t site [] (.row 0 0 (a.length+1) 1) [(0,(.pure ((z:List UInt32).map wordPV).flatten))]:=by
  intro j
  induction j with
  |zero =>
   intro t site hj ht hi
   obtain⟨h1,h2,_,_⟩:=hi
   rw[nat_take_all (by omega)] at h2
   exact⟨site,h1,h2,integer_up.l11 _ a t site (by omega) h1.symm,by have h9:=integer_upX.l11 (s:Int) a t site (sin:=[]) rfl rfl (by omega);rw[List.take_of_length_le (by omega)] at h9;exact h9⟩
  |succ j ih =>
   intro t site hj ht hi
   obtain⟨v,hv⟩:∃v,a[t]? = some v:=⟨_,List.getElem?_eq_getElem (by omega)⟩
   obtain⟨v1,hv1⟩:∃v1,site[t]? = some v1:=⟨_,List.getElem?_eq_getElem (by have:=hi.1;omega)⟩
   have hv1':v1.toNat<2^s:=by have:=hi.2.2.2;rw[wd_some hv1] at this;exact this
   obtain⟨y,w,z,x,g1,g2,g3,g4,g5,g6,g7,g8⟩:=up_step hs hv1' (w_lt v)
   obtain⟨w',hw'⟩:=w_ex w g7
   obtain⟨z',hz'⟩:=w_ex z g4
   have hp:=Nat.pow_le_pow_right (n:=2) (by omega) (show s≤32 by omega)
   have hp:2^s≤4294967296:=hp
   obtain⟨x',hx'⟩:=w_ex x (by omega)
   have e:(2:Nat)^min 32 64=4294967296:=by decide
   have hlen:=hi.1
   obtain⟨zz,q1,q2,q3,q4⟩:=ih (t+1) _ (by omega) (by omega) (up_next hi (by omega) hv hv1 (x:=x') (z:=z') (by omega) (by rw[hz',hx'];exact g8))
   refine⟨zz,q1,q2,?_,?_⟩
   ·exact integer_up.l10 _ a t site v s y v1 w' z' x x' (by omega) hv rfl g1 (by omega) hv1 (by omega) (by rw[hw'];omega) (by omega) (by omega) (by rw[e];exact g5) (by omega) (by omega) (by simp;omega) q3
   ·exact integer_upX.l10 _ a t site v s y v1 w' z' x x' rfl (by omega) hv rfl g1 (by omega) hv1 (by omega) (by rw[hw'];omega) (by omega) (by omega) (by rw[e];exact g5) (by omega) (by omega) (by simp;omega) q4
 obtain⟨z,h1,h2,h3,h4⟩:=loop a.length 0 _ rfl (by omega) (up_zero a s)
 exact⟨z,h1,h2,integer_up.e0 a _ (by omega) (by omega) h3,integer_upX.e0 a _ (by omega) (by omega) h4⟩
theorem or_high{x y:Nat}(hx:x<4294967296)(hy:y<4294967296):(x%18446744073709551616) ||| ((y*4294967296)%18446744073709551616%18446744073709551616)=y*4294967296+x:=by
 rw[Nat.or_comm,Nat.mod_mod];exact or_low hy hx
theorem nat_drop_wd(a:Words)(t:Nat):nat (a.drop t)=wd a t+4294967296*nat (a.drop (t+1)):=by
 by_cases h:t<a.length
 ·have hv:=List.getElem?_eq_getElem h
  rw[nat_drop hv,wd_some hv]
 ·rw[List.drop_of_length_le (by omega),List.drop_of_length_le (by omega),wd_none (by omega)];rfl
theorem nat_div_pow(a:Words)(t:Nat)(ht:t≤a.length):nat a/4294967296^t=nat (a.drop t):=by
 have h1:=nat_lt (a.take t)
 rw[List.length_take,Nat.min_eq_left ht] at h1
 rw[nat_split a t ht,Nat.add_comm,Nat.mul_add_div (by omega),Nat.div_eq_of_lt h1,Nat.add_zero]
theorem down(a:Words)(s:Nat)(ha:a.length≤2199023255552)(hs:s<32):Contract prg 163 [wordsPV a,vI (s:Int)] (wordsPV (words (nat a/2^s))):=by
 have hp:=Nat.two_pow_pos s
 have e2:=two_split (show s≤32 by omega)
 have loop:∀(j t:Nat) (site:Words),a.length-t=j→t≤a.length→site.length=a.length→nat (site.take t)=(nat a/2^s)%4294967296^t→integer_down.Loop1 a (s:Int) t site (wordsPV (words (nat a/2^s))):=by
  intro j
  induction j with
  |zero =>
   intro t site hj ht hl hinv
   have hte:t=a.length:=by omega
   subst hte
   rw[nat_take_all (by omega),Nat.mod_eq_of_lt (Nat.lt_of_le_of_lt (Nat.div_le_self _ _) (nat_lt a))] at hinv
   have:=integer_down.l11 a (s:Int) a.length site (words (nat site)) (by omega) hl.symm (trim site (by omega))
   rwa[hinv] at this
  |succ j ih =>
   intro t site hj ht hl hinv
   obtain⟨v,hv⟩:∃v,a[t]? = some v:=⟨_,List.getElem?_eq_getElem (by omega)⟩
   have h1:=w_lt v
   have h2:=wd_lt a (t+1)
   have e:(2:Nat)^min 32 64=4294967296:=by decide
   obtain⟨w,hw⟩:=w_ex ((wd a (t+1)*4294967296+v.toNat)/2^s%4294967296) (Nat.mod_lt _ (by omega))
   refine integer_down.l10 a (s:Int) t site v (wd a (t+1)) _ (wd a (t+1)*4294967296+v.toNat) s ((wd a (t+1)*4294967296+v.toNat)/2^s) w (by omega) hv (by omega) (word a (t+1)) rfl (by rw[e];exact or_high h1 h2) rfl (by rw[show min s 64=s from by omega]) hw.symm (by omega) ?_
   refine ih (t+1) (site.set t w) (by omega) (by omega) (by simpa using hl) ?_
   rw[nat_take_set (by omega),hinv,hw]
   have g1:nat a/2^s/4294967296^t=nat (a.drop t)/2^s:=by
    rw[Nat.div_div_eq_div_mul,Nat.mul_comm,←Nat.div_div_eq_div_mul,nat_div_pow a t (by omega)]
   have g2:nat (a.drop t)/2^s%4294967296=(wd a (t+1)*4294967296+v.toNat)/2^s%4294967296:=by
    rw[nat_drop_wd a t,nat_drop_wd a (t+1),wd_some hv]
    generalize nat (a.drop (t+1+1))=r
    generalize wd a (t+1)=y
    generalize v.toNat=x
    generalize hP:2^s=p at *
    generalize hQ:2^(32-s)=q at *
    have:x+4294967296*(y+4294967296*r)=p*(4294967296*(q*r))+(y*4294967296+x):=by
     have:p*(4294967296*(q*r))=4294967296*(4294967296*r):=by
      rw[Nat.mul_left_comm p 4294967296,←Nat.mul_assoc p q r,e2]
     omega
    rw[this,Nat.mul_add_div hp,Nat.mul_add_mod]
   have g3:=Nat.mod_mul (a:=4294967296^t) (b:=4294967296) (x:=nat a/2^s)
   rw[Nat.pow_succ,g3,g1,g2]
 exact integer_down.e0 a (s:Int) (by omega) (loop _ 0 _ rfl (by omega) (by simp) (by simp[nat,Nat.mod_one]))
theorem set_mid{α:Type}(A U C:List α)(t:Nat)(x:α)(ht:t<U.length):(A++(U++C)).set (A.length+t) x=A++(U.set t x++C):=by
 rw[List.set_append_right _ _ (by omega),show A.length+t-A.length=t from by omega,List.set_append_left _ _ ht]
theorem get_mid{α:Type}(A U C:List α)(t:Nat)(x:α)(h:U[t]? = some x):(A++(U++C))[A.length+t]? = some x:=by
 have ht:=(List.getElem?_eq_some_iff.1 h).1
 rw[List.getElem?_append_right (by omega),show A.length+t-A.length=t from by omega,List.getElem?_append_left ht]
 exact h
abbrev mid(A U C:Words):SC := .pure (((A++(U++C):List UInt32)).map wordPV).flatten
theorem remove(A U C v:Words)(n off len:Nat)(ho:off=A.length)(hlen:len=U.length)(hU:U.length≤2199023255553)(hn:n<4294967296)(hb:n*nat v<4294967296^U.length)(hvl:v.length≤U.length) :
  ∃(U':Words) (bo:Bool),U'.length=U.length∧((bo=false→nat U'+n*nat v=nat U)∧(bo=true→nat U'+n*nat v=nat U+4294967296^U.length)) ∧
   ContractX prg 161 [.row 100000 off len 1,.pv (wordsPV v),.pv (vU n)] [(100000,mid A U C)] (.pv (vB bo)) [(100000,mid A U' C)]:=by
 subst ho;subst hlen
 have loop:∀(j t carry borrow:Nat) (U0:Words),U.length-t=j→t≤U.length→U0.length=U.length→borrow≤1→carry<4294967296→4294967296^t*carry≤n*nat (v.take t)→(∀q,t≤q→U0[q]? = U[q]?) →
   nat (U0.take t)+n*nat (v.take t)=nat (U.take t)+4294967296^t*(carry+borrow) →
   ∃(U':Words) (bo:Bool),U'.length=U.length∧((bo=false→nat U'+n*nat v=nat U)∧(bo=true→nat U'+n*nat v=nat U+4294967296^U.length)) ∧
    integer_remove.Loop1 A.length U.length v n carry borrow t (A++(U0++C)) [(100000,mid A U C)] (.pv (vB bo)) [(100000,mid A U' C)]:=by
  intro j
  induction j with
  |zero =>
   intro t carry borrow U0 hj ht hl hbo hca hcl _ hinv
   have hte:t=U.length:=by omega
   subst hte
   rw[nat_take_all (l:=v) hvl] at hinv hcl
   rw[nat_take_all (by omega),nat_take_all (l:=U) (by omega)] at hinv
   have hc0:carry=0:=by
    refine Nat.eq_zero_of_not_pos fun hp => ?_
    have:=Nat.mul_le_mul_left (4294967296^U.length) hp
    omega
   subst hc0
   refine⟨U0,decide ((borrow:Int)=1),hl,?_,?_⟩
   ·by_cases h1:borrow=1
    ·subst h1
     exact⟨fun h=>by simp at h,fun _=>by rw[hinv];simp⟩
    ·have h0:borrow=0:=by omega
     subst h0
     exact⟨fun _=>by rw[hinv];simp,fun h=>by simp at h⟩
   ·have:=integer_remove.l11 A.length U.length v n 0 borrow U.length (A++(U0++C)) (sin:=[(100000,mid A U C)]) rfl rfl (by omega)
    have e:((borrow:Int)==1)=decide ((borrow:Int)=1):=by
     by_cases h1:borrow=1
     ·subst h1;rfl
     ·have h0:borrow=0:=by omega
      subst h0;rfl
    rw[e] at this;exact this
  |succ j ih =>
   intro t carry borrow U0 hj ht hl hbo hca hcl hsame hinv
   obtain⟨x,hx⟩:∃x,U[t]? = some x:=⟨_,List.getElem?_eq_getElem (by omega)⟩
   have hx0:U0[t]? = some x:=by rw[hsame t (Nat.le_refl t)];exact hx
   have h1:=wd_lt v t
   have h2:=w_lt x
   have h3:=mul_word hn h1
   have e:(2:Nat)^min 32 64=4294967296:=by decide
   generalize hp:n*wd v t=p at *
   obtain⟨lo,hlo⟩:=w_ex ((carry+p)%4294967296) (by omega)
   have hz:∃(d d1 y nb:Nat),((x.toNat:Nat)-(lo.toNat:Nat):Int)%18446744073709551616=(d:Int)∧((d:Nat)-(borrow:Nat):Int)%18446744073709551616=(d1:Int)∧d1%4294967296=y∧d1/2^min 63 64=nb∧nb≤1∧y<4294967296∧y+lo.toNat+borrow=x.toNat+4294967296*nb:=by
    have hlo2:=w_lt lo
    refine⟨(((x.toNat:Nat)-(lo.toNat:Nat):Int)%18446744073709551616).toNat,((((x.toNat:Nat)-(lo.toNat:Nat):Int)%18446744073709551616-borrow)%18446744073709551616).toNat,_,_,by omega,by omega,rfl,rfl,?_⟩
    have e:(2:Nat)^min 63 64=9223372036854775808:=by decide
    rw[e]
    generalize lo.toNat=q at *
    generalize x.toNat=r at *
    by_cases hpq:q+borrow≤r
    ·have e1:(((r:Int)-(q:Int))%18446744073709551616-borrow)%18446744073709551616=(r:Int)-q-borrow:=by omega
     rw[e1];omega
    ·have e1:(((r:Int)-(q:Int))%18446744073709551616-borrow)%18446744073709551616=(r:Int)-q-borrow+18446744073709551616:=by omega
     rw[e1];omega
   obtain⟨d,d1,y,nb,g1,g2,g3,g4,g5,g6,g7⟩:=hz
   obtain⟨w,hw⟩:=w_ex y g6
   have hset:=set_mid A U0 C t w (by omega)
   have hmul:n*nat (v.take (t+1))=n*nat (v.take t)+4294967296^t*p:=by
    rw[nat_take_wd v t,Nat.mul_add,←hp,Nat.mul_left_comm]
   have hdm:=Nat.div_add_mod (carry+p) 4294967296
   have hA:4294967296^t*carry+4294967296^t*p=4294967296^t*(4294967296*((carry+p)/4294967296))+4294967296^t*lo.toNat:=by
    rw[hlo,←Nat.mul_add,←Nat.mul_add,hdm]
   have hB:4294967296^t*y+4294967296^t*lo.toNat+4294967296^t*borrow=4294967296^t*x.toNat+4294967296^t*(4294967296*nb):=by
    rw[←Nat.mul_add,←Nat.mul_add,←Nat.mul_add,g7]
   obtain⟨U',bo,q1,q2,q3⟩:=ih (t+1) ((carry+p)/4294967296) nb (U0.set t w) (by omega) (by omega) (by simpa using hl) g5 (by omega)
    (by rw[hmul,Nat.pow_succ,Nat.mul_assoc];omega)
    (fun q hq=>by rw[List.getElem?_set_ne (by omega)];exact hsame q (by omega))
    (by
     rw[nat_take_set (by omega),hw,hmul,nat_take_succ hx,Nat.pow_succ,Nat.mul_assoc,Nat.mul_add 4294967296,Nat.mul_add (4294967296^t)]
     rw[Nat.mul_add (4294967296^t) carry borrow] at hinv
     omega)
   refine⟨U',bo,q1,q2,?_⟩
   refine integer_remove.l10 A.length U.length v n carry borrow t _ (wd v t) p (carry+p) x lo d d1 w nb ((carry+p)/4294967296) rfl (by omega) (word v t) (by rw[hp];omega) (by omega) (get_mid A U0 C t x hx0) hlo.symm g1 g2 (by omega) (by simp;omega) g4 (by rw[e]) (by omega) ?_
   rw[hset];exact q3
 obtain⟨U',bo,h1,h2,h3⟩:=loop _ 0 0 0 U rfl (by omega) rfl (by omega) (by omega) (by simp) (fun _ _=>rfl) (by simp[nat])
 exact⟨U',bo,h1,h2,integer_remove.e0 (A++(U++C)) A.length U.length v n h3⟩
theorem back(A U C v:Words)(off len:Nat)(ho:off=A.length)(hlen:len=U.length)(hU:U.length≤2199023255553)(hvl:v.length≤U.length) :
  ∃(U':Words) (ca:Nat),U'.length=U.length∧ca≤1∧nat U'+4294967296^U.length*ca=nat U+nat v ∧
   ContractX prg 162 [.row 100000 off len 1,.pv (wordsPV v)] [(100000,mid A U C)] (.pv (.tup [])) [(100000,mid A U' C)]:=by
 subst ho;subst hlen
 have loop:∀(j t carry:Nat) (U0:Words),U.length-t=j→t≤U.length→U0.length=U.length→carry≤1→(∀q,t≤q→U0[q]? = U[q]?) →
   nat (U0.take t)+4294967296^t*carry=nat (U.take t)+nat (v.take t) →
   ∃(U':Words) (ca:Nat),U'.length=U.length∧ca≤1∧nat U'+4294967296^U.length*ca=nat U+nat v ∧
    integer_back.Loop1 A.length U.length v carry t (A++(U0++C)) [(100000,mid A U C)] (.pv (.tup [])) [(100000,mid A U' C)]:=by
  intro j
  induction j with
  |zero =>
   intro t carry U0 hj ht hl hca _ hinv
   have hte:t=U.length:=by omega
   subst hte
   rw[nat_take_all (l:=v) hvl] at hinv
   rw[nat_take_all (by omega),nat_take_all (l:=U) (by omega)] at hinv
   exact⟨U0,carry,hl,hca,hinv,integer_back.l11 A.length U.length v carry U.length (A++(U0++C)) (sin:=[(100000,mid A U C)]) rfl rfl (by omega)⟩
  |succ j ih =>
   intro t carry U0 hj ht hl hca hsame hinv
   obtain⟨x,hx⟩:∃x,U[t]? = some x:=⟨_,List.getElem?_eq_getElem (by omega)⟩
   have hx0:U0[t]? = some x:=by rw[hsame t (Nat.le_refl t)];exact hx
   have h1:=wd_lt v t
   have h2:=w_lt x
   have e:(2:Nat)^min 32 64=4294967296:=by decide
   obtain⟨w,hw⟩:=w_ex ((carry+(x.toNat+wd v t))%4294967296) (by omega)
   have hdm:=Nat.div_add_mod (carry+(x.toNat+wd v t)) 4294967296
   have hA:4294967296^t*carry+4294967296^t*x.toNat+4294967296^t*wd v t=4294967296^t*(4294967296*((carry+(x.toNat+wd v t))/4294967296))+4294967296^t*w.toNat:=by
    rw[hw,←Nat.mul_add,←Nat.mul_add,←Nat.mul_add,hdm];congr 1;omega
   obtain⟨U',ca,q1,q2,q3,q4⟩:=ih (t+1) ((carry+(x.toNat+wd v t))/4294967296) (U0.set t w) (by omega) (by omega) (by simpa using hl) (by omega)
    (fun q hq=>by rw[List.getElem?_set_ne (by omega)];exact hsame q (by omega))
    (by rw[nat_take_set (by omega),nat_take_wd v t,nat_take_succ hx,Nat.pow_succ,Nat.mul_assoc];omega)
   refine⟨U',ca,q1,q2,q3,?_⟩
   refine integer_back.l10 A.length U.length v carry t _ x (wd v t) (x.toNat+wd v t) (carry+(x.toNat+wd v t)) w _ rfl (by omega) (get_mid A U0 C t x hx0) (word v t) (by omega) (by omega) hw.symm (by simp;omega) (by rw[e]) (by omega) ?_
   rw[set_mid A U0 C t w (by omega)];exact q4
 obtain⟨U',ca,h1,h2,h3,h4⟩:=loop _ 0 0 U rfl (by omega) rfl (by omega) (fun _ _=>rfl) (by simp[nat])
 exact⟨U',ca,h1,h2,h3,integer_back.e0 (A++(U++C)) A.length U.length v h4⟩
end CInt
end Go.Proofs.YtboilcfohmmpbaaGreatDoor.Sym
namespace Go.Proofs.YtboilcfohmmpbaaGreatDoor.Sym
open Go Path
set_option linter.unusedVariables false
section
variable {V R W top next hi lo head r0 guess rest:Nat}
structure Kn (V R W top next head lo r0:Nat):Prop where
 v1:(top*4294967296+next)*W≤V
 v2:V<(top*4294967296+next+1)*W
 r:R=(head*4294967296+lo)*W+r0
 r0:r0<W
 lo:lo<4294967296
 next:next<4294967296
 top:0<top
 rv:R<V*4294967296
theorem Kn.rlt(h:Kn V R W top next head lo r0):R<(head*4294967296+lo+1)*W:=by
 have h1:=h.r;have h2:=h.r0
 rw[Nat.add_mul _ 1,Nat.one_mul];omega
theorem Kn.vpos(h:Kn V R W top next head lo r0):0<V∧4294967296*W≤V:=by
 have h1:=h.v1
 have h2:=h.r0
 have h3:4294967296*W≤(top*4294967296+next)*W:=Nat.mul_le_mul_right _ (by have:=h.top;omega)
 omega
theorem Kn.start(h:Kn V R W top next head lo r0):R/V≤head/top:=by
 have hv:=h.vpos.1
 rw[←Nat.lt_succ_iff,Nat.div_lt_iff_lt_mul hv]
 have h1:head+1≤(head/top+1)*top:=by
  have:=Nat.lt_div_mul_add (a:=head) h.top
  rw[Nat.add_mul,Nat.one_mul];omega
 have h2:(head/top+1)*((top*4294967296+next)*W)≤(head/top+1)*V:=Nat.mul_le_mul_left _ h.v1
 have h3:(head*4294967296+lo+1)*W≤(head/top+1)*((top*4294967296+next)*W):=by
  rw[←Nat.mul_assoc]
  refine Nat.mul_le_mul_right _ ?_
  rw[Nat.mul_add,←Nat.mul_assoc]
  have:=Nat.mul_le_mul_right 4294967296 h1
  have:=h.lo
  omega
 have:=h.rlt
 show R<(head/top+1)*V
 omega
theorem Kn.small(h:Kn V R W top next head lo r0):R/V<4294967296:=by
 rw[Nat.div_lt_iff_lt_mul h.vpos.1,Nat.mul_comm];exact h.rv
theorem Kn.less(h:Kn V R W top next head lo r0)(hg:guess*top+rest=head)(hc:rest*4294967296+lo<guess*next):R/V<guess:=by
 rw[Nat.div_lt_iff_lt_mul h.vpos.1]
 have h2:guess*((top*4294967296+next)*W)≤guess*V:=Nat.mul_le_mul_left _ h.v1
 have h3:(head*4294967296+lo+1)*W≤guess*((top*4294967296+next)*W):=by
  rw[←Nat.mul_assoc]
  refine Nat.mul_le_mul_right _ ?_
  rw[Nat.mul_add,←Nat.mul_assoc,←hg,Nat.add_mul]
  omega
 have:=h.rlt
 omega
theorem Kn.fits(h:Kn V R W top next head lo r0)(hg:guess*top+rest=head)(hr:4294967296≤rest):guess<4294967296:=by
 refine Nat.lt_of_not_le fun hge => ?_
 have h1:4294967296*top≤guess*top:=Nat.mul_le_mul_right _ hge
 have h2:(head*4294967296)*W≤R:=by
  rw[h.r,Nat.add_mul];omega
 have h3:(4294967296*top+4294967296)*4294967296*W≤head*4294967296*W:=Nat.mul_le_mul_right _ (Nat.mul_le_mul_right _ (by omega))
 have h4:V*4294967296<(top*4294967296+next+1)*W*4294967296:=Nat.mul_lt_mul_of_pos_right h.v2 (by omega)
 have h5:(top*4294967296+next+1)*W*4294967296≤(4294967296*top+4294967296)*W*4294967296:=Nat.mul_le_mul_right _ (Nat.mul_le_mul_right _ (by have:=h.next;omega))
 have h6:(4294967296*top+4294967296)*W*4294967296=(4294967296*top+4294967296)*4294967296*W:=by rw[Nat.mul_right_comm]
 have:=h.rv
 omega
theorem Kn.near(h:Kn V R W top next head lo r0)(hg:guess*top+rest=head)(hl:guess<4294967296)(hc:4294967296≤rest∨guess*next≤rest*4294967296+lo):guess≤R/V+1:=by
 have hv:=h.vpos.1
 cases guess with
 |zero=>exact Nat.zero_le _
 |succ g =>
  refine Nat.succ_le_succ ?_
  rw[Nat.le_div_iff_mul_le hv]
  have h0:(g+1)*V≤(g+1)*((top*4294967296+next+1)*W):=Nat.mul_le_mul_left _ (Nat.le_of_lt h.v2)
  have h1:(g+1)*((top*4294967296+next+1)*W)=((g+1)*top*4294967296+(g+1)*next+(g+1))*W:=by
   rw[←Nat.mul_assoc,Nat.mul_add,Nat.mul_add,Nat.mul_one,Nat.mul_assoc (g+1) top]
  have h2:=h.vpos.2
  have h3:(g+1)*V=g*V+V:=by rw[Nat.add_mul,Nat.one_mul]
  have hr:(head*4294967296+lo)*W≤R:=by rw[h.r];omega
  rcases hc with hc|hc
  ·have h4:((g+1)*top*4294967296+(g+1)*next+(g+1))*W≤(head*4294967296+lo)*W:=by
    refine Nat.mul_le_mul_right _ ?_
    have h5:(g+1)*next+(g+1)≤(g+1)*4294967296:=by
     have:=Nat.mul_le_mul_left (g+1) (show next+1≤4294967296 by have:=h.next;omega)
     rw[Nat.mul_add,Nat.mul_one] at this;exact this
    rw[←hg,Nat.add_mul]
    omega
   omega
  ·have h4:((g+1)*top*4294967296+(g+1)*next+(g+1))*W≤(head*4294967296+lo+4294967296)*W:=by
    refine Nat.mul_le_mul_right _ ?_
    rw[←hg,Nat.add_mul];omega
   rw[Nat.add_mul _ 4294967296] at h4
   omega
end
namespace CInt
theorem nat_seg(u:Words)(j n:Nat)(h:j+n≤u.length):nat (u.drop j)=nat ((u.drop j).take n)+4294967296^n*nat (u.drop (j+n)):=by
 have:=nat_split (u.drop j) n (by simp;omega)
 rw[List.drop_drop] at this
 exact this
theorem nat_top3(U:Words)(n:Nat)(h:U.length=n+3){a b c:UInt32}(ha:U[n]? = some a)(hb:U[n+1]? = some b)(hc:U[n+2]? = some c) :
  nat U=((c.toNat*4294967296+b.toNat)*4294967296+a.toNat)*4294967296^n+nat (U.take n):=by
 have h1:=nat_take_succ hc
 have h2:=nat_take_succ hb
 have h3:=nat_take_succ ha
 rw[nat_take_all (by omega)] at h1
 rw[h1,h2,h3]
 have e1:(4294967296:Nat)^(n+1)=4294967296^n*4294967296:=Nat.pow_succ ..
 have e2:(4294967296:Nat)^(n+2)=4294967296^n*4294967296*4294967296:=by rw[Nat.pow_succ,e1]
 rw[e1,e2]
 generalize (4294967296:Nat)^n=P
 grind
theorem nat_top2(U:Words)(n:Nat)(h:U.length=n+2){a b:UInt32}(ha:U[n]? = some a)(hb:U[n+1]? = some b) :
  nat U=(b.toNat*4294967296+a.toNat)*4294967296^n+nat (U.take n):=by
 have h2:=nat_take_succ hb
 have h3:=nat_take_succ ha
 rw[nat_take_all (by omega)] at h2
 rw[h2,h3]
 have e1:(4294967296:Nat)^(n+1)=4294967296^n*4294967296:=Nat.pow_succ ..
 rw[e1]
 generalize (4294967296:Nat)^n=P
 grind
structure Dv (a b zb v:Words) (v1 v2:UInt32) (s n m V N:Nat):Prop where
 hv:v=zb.take b.length
 hs32:s<32
 hal:a.length≤2199023255551
 hm:a.length+1=m+(n+2)
 hvl:v.length=n+2
 hvn:nat v=V
 hVlt:V<4294967296^(n+2)
 hVp:0<V
 hv1:v[n+1]? = some v1
 hv2:v[n]? = some v2
 hVd:V=(v1.toNat*4294967296+v2.toNat)*4294967296^n+nat (v.take n)
 hvt:nat (v.take n)<4294967296^n
 hv1p:0<v1.toNat
 res:∀q r:Nat,N=q*V+r→r<V→nat a/nat b=q∧r/2^s=nat a%nat b
structure Pt (u U A C:Words) (n j R Q V:Nat):Prop where
 hUl:U.length=n+3
 hAl:A.length=j
 hu:u=A++(U++C)
 hseg:R=nat U
 hQ:R/V=Q
 hC0:nat C=0
 hR:R=nat (u.drop j)
 hj:j+(n+3)≤u.length
 hul:u.length≤2199023255552
theorem fin_a{g Q V R r P x:Nat}(hdm:Q*V+r=R)(hx:x<P)(h2:x+g*V=R+P)(hg2:Q≤g)(hg3:g≤Q+1):g=Q+1∧x+V=r+P:=by
 rcases Nat.lt_or_ge Q g with h5|h5
 ·have h6:g=Q+1:=by omega
  rw[h6,Nat.add_mul,Nat.one_mul] at h2
  exact⟨h6,by omega⟩
 ·have h6:g=Q:=by omega
  rw[h6] at h2
  omega
theorem fin_b{ca V r P x y:Nat}(h:y+P*ca=x+V)(hy:y<P)(h2:x+V=r+P)(hc:ca≤1):y=r:=by
 have hca:ca=0∨ca=1:=by omega
 rcases hca with rfl|rfl
 ·omega
 ·omega
theorem div_fin {a b zb v u U A C : Words} {v1 v2 : UInt32} {s n m V N j R Q : Nat} (dv : Dv a b zb v v1 v2 s n m V N) (pt : Pt u U A C n j R Q V) :
    ∀ guess : Nat, guess < 4294967296 → Q ≤ guess → guess ≤ Q + 1 → ∃ (U1 : Words) (bo : Bool) (U2 : Words), U1.length = n + 3 ∧
          ContractX prg 161 [.row 100000 (0 + j * 1) (j + (n + 3) - j) 1, .pv (wordsPV (zb.take b.length)), .pv (vU guess)] [(100000, .pure ((u : List UInt32).map wordPV).flatten)] (.pv (vB bo)) [(100000, .pure (((A ++ (U1 ++ C) : List UInt32)).map wordPV).flatten)] ∧
          (bo = false → guess = Q ∧ nat U1 = R % V) ∧
          (bo = true → guess = Q + 1 ∧ 0 < guess ∧ U2.length = n + 3 ∧ nat U2 = R % V ∧
            ContractX prg 162 [.row 100000 (0 + j * 1) (j + (n + 3) - j) 1, .pv (wordsPV (zb.take b.length))] [(100000, .pure (((A ++ (U1 ++ C) : List UInt32)).map wordPV).flatten)] (.pv (.tup [])) [(100000, .pure (((A ++ (U2 ++ C) : List UInt32)).map wordPV).flatten)]) := by
  obtain ⟨hv, hs32, hal, hm, hvl, hvn, hVlt, hVp, hv1, hv2, hVd, hvt, hv1p, res⟩ := dv
  obtain ⟨hUl, hAl, hu, hseg, hQ, hC0, hR, hj, hul⟩ := pt
  have hpow3 : (4294967296 : Nat) ^ (n + 3) = 4294967296 ^ (n + 2) * 4294967296 := Nat.pow_succ ..
  intro guess hg1 hg2 hg3
  have hdm := Nat.div_add_mod R V
  rw [hQ] at hdm
  have hml := Nat.mod_lt R hVp
  rw [Nat.mul_comm] at hdm
  rw [← hv]
  obtain ⟨U1, bo, r1, ⟨r2f, r2t⟩, r3⟩ := remove A U C v guess (0 + j * 1) (j + (n + 3) - j) (by omega) (by omega) (by omega) hg1 (by
    rw [hvn, hUl, hpow3]
    have h5 := Nat.mul_lt_mul_of_pos_left hVlt (show 0 < 4294967296 by omega)
    have h6 := Nat.mul_le_mul_right V (Nat.le_of_lt hg1)
    rw [Nat.mul_comm (4294967296 ^ (n + 2))]; omega) (by omega)
  rw [hvn, ← hseg] at r2f r2t
  rw [hUl] at r2t
  have hU1 := nat_lt U1
  rw [r1, hUl] at hU1
  obtain ⟨U2, ca, b1, b2, b3, b4⟩ := back A U1 C v (0 + j * 1) (j + (n + 3) - j) (by omega) (by omega) (by omega) (by omega)
  rw [hvn, r1, hUl] at b3
  have hU2 := nat_lt U2
  rw [b1, r1, hUl] at hU2
  have hVP : V < 4294967296 ^ (n + 3) := by
    have := Nat.pow_le_pow_right (n := 4294967296) (by omega) (show n + 2 ≤ n + 3 by omega)
    exact Nat.lt_of_lt_of_le hVlt this
  clear hpow3 hVlt hvt hVd res
  generalize (4294967296 : Nat) ^ (n + 3) = P3 at r2t hU1 b3 hU2 hVP
  refine ⟨U1, bo, U2, by omega, by rw [show mid A U C = .pure ((u : List UInt32).map wordPV).flatten from by rw [hu]] at r3; exact r3, fun hbo => ?_, fun hbo => ?_⟩
  · have r2 := r2f hbo
    have : guess = Q := by
      rcases Nat.lt_or_ge (Q) guess with h5 | h5
      · have h6 : guess = Q + 1 := by omega
        rw [h6, Nat.add_mul, Nat.one_mul] at r2
        omega
      · omega
    rw [this] at r2
    exact ⟨this, by omega⟩
  · have r2 := r2t hbo
    obtain ⟨g1, g2⟩ := fin_a hdm hU1 r2 hg2 hg3
    exact ⟨g1, by rw [g1]; exact Nat.succ_pos _, b1.trans (r1.trans hUl), fin_b b3 hU2 g2 b2, b4⟩
theorem div_next{a b zb v u q U A C:Words}{v1 v2:UInt32}{s n m V N j R Q:Nat}(dv:Dv a b zb v v1 v2 s n m V N)(pt:Pt u U A C n j R Q V)(hjm:j+1≤m)(hul:u.length=a.length+1)(hql:q.length=m)(hA:nat u=nat A+4294967296^j*R)
  (hinv:N=nat (q.drop (j+1))*4294967296^(j+1)*V+nat u)
  (ih:∀(u q:Words),u.length=a.length+1→q.length=m→nat (u.drop j)<V→N=nat (q.drop j)*4294967296^j*V+nat u →
   integer_divide.Loop1 (s:Int) zb b (a.length+1) m v1 v2 ((j:Int)-1) u q (.tup [wordsPV (words (nat a/nat b)),wordsPV (words (nat a%nat b))])) (U2:Words) (w:UInt32) (hl2:U2.length=n+3) (hn2:nat U2=R%V) (hw:w.toNat=Q) :
  integer_divide.Loop1 (s:Int) zb b (a.length+1) m v1 v2 ((j:Int)-1) (A++(U2++C)) (q.set j w) (.tup [wordsPV (words (nat a/nat b)),wordsPV (words (nat a%nat b))]):=by
 have hVp:=dv.hVp
 obtain⟨hUl,hAl,hu,hseg,hQ,hC0,hR,hj,_⟩:=pt
 have hd2:(A++(U2++C)).drop j=U2++C:=by rw[←hAl];exact List.drop_left
 have hn3:nat (U2++C)=R%V:=by rw[nat_append,hC0,hn2];simp
 refine ih _ _ ?_ (by simpa using hql) (by rw[hd2,hn3];exact Nat.mod_lt _ hVp) ?_
 ·have h5:u.length=(A++(U++C)).length:=by rw[←hu]
  simp only[List.length_append] at h5 ⊢
  omega
 ·have h5:nat (A++(U2++C))=nat A+4294967296^j*(R%V):=by rw[nat_append,hn3,hAl]
  have h7:nat ((q.set j w).drop j)=Q+4294967296*nat (q.drop (j+1)):=by
   rw[nat_drop (v:=w) (by rw[List.getElem?_set_self (by omega)]),List.drop_set_of_lt (by omega),hw]
  rw[h5,h7,hinv,hA]
  have h8:=Nat.div_add_mod R V
  rw[hQ] at h8
  have e1:(4294967296:Nat)^(j+1)=4294967296^j*4294967296:=Nat.pow_succ ..
  rw[e1]
  generalize (4294967296:Nat)^j=P at *
  generalize nat (q.drop (j+1))=X at *
  generalize R%V=r at *
  rw[←h8]
  clear h8 hj hu hseg hR hinv hA h5 h7 e1
  grind
theorem div_inner{a b zb v u q U A C:Words}{v1 v2 lo:UInt32}{s n m V N j R Q head r0:Nat}(dv:Dv a b zb v v1 v2 s n m V N)(pt:Pt u U A C n j R Q V)(kn:Kn V R (4294967296^n) v1.toNat v2.toNat head lo.toNat r0)(hjm:j+1≤m)(hul:u.length=a.length+1)(hql:q.length=m)(hlo:U[n]? = some lo)
  (next:∀(U2:Words) (w:UInt32),U2.length=n+3→nat U2=R%V→w.toNat=Q →
   integer_divide.Loop1 (s:Int) zb b (a.length+1) m v1 v2 ((j:Int)-1) (A++(U2++C)) (q.set j w) (.tup [wordsPV (words (nat a/nat b)),wordsPV (words (nat a%nat b))])) :
  ∀(k guess rest:Nat),4294967296-rest≤k→rest<18446744073709551616-4294967296→guess*v1.toNat+rest=head→Q≤guess→guess<18446744073709551616 →
   integer_divide.Loop2 (s:Int) zb b (a.length+1) m v1 v2 (((j+1:Nat):Int)-1) j (j+(n+3)) guess rest u q (.tup [wordsPV (words (nat a/nat b)),wordsPV (words (nat a%nat b))]):=by
 have fin:=div_fin dv pt
 obtain⟨hv,hs32,hal,hm,hvl,hvn,hVlt,hVp,hv1,hv2,hVd,hvt,hv1p,res⟩:=dv
 obtain⟨hUl,hAl,hu,hseg,hQ,hC0,hR,hj,_⟩:=pt
 have hlo2:=w_lt lo
 have hv12:=w_lt v1
 have hv22:=w_lt v2
 have htl:(zb.take b.length).length=n+2:=by rw[←hv];exact hvl
 have e32:(2:Nat)^min 32 64=4294967296:=by decide
 have hsite:∀(k:Nat) (w:UInt32),U[k]? = some w→u[(0+j*1)+k]? = some w:=fun k w hk=>by
  rw[hu,Nat.zero_add,Nat.mul_one,←hAl];exact get_mid A U C k w hk
 have kSmall:=kn.small
 rw[hQ] at kSmall
 have kLess:∀{g r:Nat},g*v1.toNat+r=head→r*4294967296+lo.toNat<g*v2.toNat→Q<g:=fun h1 h2=>by rw[←hQ];exact kn.less h1 h2
 have kNear:∀{g r:Nat},g*v1.toNat+r=head→g<4294967296→(4294967296≤r∨g*v2.toNat≤r*4294967296+lo.toNat)→g≤Q+1:=fun h1 h2 h3=>by rw[←hQ];exact kn.near h1 h2 h3
 clear hVlt hvt hVd res hseg hR
 intro k
 induction k with
 |zero =>
  intro guess rest hk hrest hg hq hg2
  have hr:4294967296≤rest:=by omega
  have hgl:=kn.fits hg hr
  obtain⟨U1,bo,U2,f1,f2,f3,f4⟩:=fin guess hgl hq (kNear hg hgl (.inl hr))
  cases bo with
  |false =>
   obtain⟨g1,g2⟩:=f3 rfl
   obtain⟨w,hw⟩:=w_ex guess hgl
   refine integer_divide.l25 (s:Int) zb b (a.length+1) m v1 v2 _ j (j+(n+3)) guess rest u q _ false w j hr f2 rfl (by omega) (by omega) (by omega) (by omega) (by unfold InI64;omega) ?_
   rw[show (((j+1:Nat):Int)-1-1)=(j:Int)-1 from by omega]
   exact next U1 w f1 g2 (by omega)
  |true =>
   obtain⟨g1,g0,g2,g3,g4⟩:=f4 rfl
   obtain⟨w,hw⟩:=w_ex (guess-1) (by omega)
   refine integer_divide.l24 (s:Int) zb b (a.length+1) m v1 v2 _ j (j+(n+3)) guess rest u q _ true (guess-1) _ w j hr f2 rfl (by omega) g4 (by omega) (by omega) (by omega) (by omega) (by unfold InI64;omega) ?_
   rw[show (((j+1:Nat):Int)-1-1)=(j:Int)-1 from by omega]
   exact next U2 w g2 g3 (by omega)
 |succ k ihk =>
  intro guess rest hk hrest hg hq hg2
  by_cases hr:4294967296≤rest
  ·have hgl:=kn.fits hg hr
   obtain⟨U1,bo,U2,f1,f2,f3,f4⟩:=fin guess hgl hq (kNear hg hgl (.inl hr))
   cases bo with
   |false =>
    obtain⟨g1,g2⟩:=f3 rfl
    obtain⟨w,hw⟩:=w_ex guess hgl
    refine integer_divide.l25 (s:Int) zb b (a.length+1) m v1 v2 _ j (j+(n+3)) guess rest u q _ false w j hr f2 rfl (by omega) (by omega) (by omega) (by omega) (by unfold InI64;omega) ?_
    rw[show (((j+1:Nat):Int)-1-1)=(j:Int)-1 from by omega]
    exact next U1 w f1 g2 (by omega)
   |true =>
    obtain⟨g1,g0,g2,g3,g4⟩:=f4 rfl
    obtain⟨w,hw⟩:=w_ex (guess-1) (by omega)
    refine integer_divide.l24 (s:Int) zb b (a.length+1) m v1 v2 _ j (j+(n+3)) guess rest u q _ true (guess-1) _ w j hr f2 rfl (by omega) g4 (by omega) (by omega) (by omega) (by omega) (by unfold InI64;omega) ?_
    rw[show (((j+1:Nat):Int)-1-1)=(j:Int)-1 from by omega]
    exact next U2 w g2 g3 (by omega)
  have hqs:=kSmall
  have step:∀(hdec:Q<guess),(guess-1)*v1.toNat+(rest+v1.toNat)=head:=by
   intro hdec
   have:guess=(guess-1)+1:=by omega
   rw[this,Nat.add_mul,Nat.one_mul] at hg
   omega
  by_cases hg3:4294967296≤guess
  ·refine integer_divide.l20 (s:Int) zb b (a.length+1) m v1 v2 _ j (j+(n+3)) guess rest u q (guess-1) (rest+v1.toNat) (by omega) hg3 (by omega) (by omega) ?_
   exact ihk (guess-1) (rest+v1.toNat) (by omega) (by omega) (step (by omega)) (by omega) (by omega)
  ·have hgn:guess*v2.toNat<18446744073709551616:=by have:=mul_word (show guess<4294967296 by omega) hv22;omega
   have hz1:rest*2^min 32 64%18446744073709551616%18446744073709551616 ||| lo.toNat%18446744073709551616=rest*4294967296+lo.toNat:=by
    rw[e32,Nat.mod_mod];exact or_low (by omega) hlo2
   by_cases hc:rest*4294967296+lo.toNat<guess*v2.toNat
   ·have hdec:=kLess hg hc
    refine integer_divide.l21 (s:Int) zb b (a.length+1) m v1 v2 _ j (j+(n+3)) guess rest u q (guess*v2.toNat) _ n lo (rest*4294967296+lo.toNat) (guess-1) (rest+v1.toNat) (by omega) (by omega) (Nat.mod_eq_of_lt hgn) rfl (by rw[htl];unfold InI64;omega) (by rw[htl];omega) (by omega) (hsite n lo hlo) hz1 hc (by omega) (by omega) ?_
    exact ihk (guess-1) (rest+v1.toNat) (by omega) (by omega) (step hdec) (by omega) (by omega)
   ·obtain⟨U1,bo,U2,f1,f2,f3,f4⟩:=fin guess (by omega) hq (kNear hg (by omega) (.inr (by omega)))
    cases bo with
    |false =>
     obtain⟨g1,g2⟩:=f3 rfl
     obtain⟨w,hw⟩:=w_ex guess (by omega)
     refine integer_divide.l23 (s:Int) zb b (a.length+1) m v1 v2 _ j (j+(n+3)) guess rest u q (guess*v2.toNat) _ n lo (rest*4294967296+lo.toNat) _ false w j (by omega) (by omega) (Nat.mod_eq_of_lt hgn) rfl (by rw[htl];unfold InI64;omega) (by rw[htl];omega) (by omega) (hsite n lo hlo) hz1 (by omega) f2 rfl (by omega) (by omega) (by omega) (by omega) (by unfold InI64;omega) ?_
     rw[show (((j+1:Nat):Int)-1-1)=(j:Int)-1 from by omega]
     exact next U1 w f1 g2 (by omega)
    |true =>
     obtain⟨g1,g0,g2,g3,g4⟩:=f4 rfl
     obtain⟨w,hw⟩:=w_ex (guess-1) (by omega)
     refine integer_divide.l22 (s:Int) zb b (a.length+1) m v1 v2 _ j (j+(n+3)) guess rest u q (guess*v2.toNat) _ n lo (rest*4294967296+lo.toNat) _ true (guess-1) _ w j (by omega) (by omega) (Nat.mod_eq_of_lt hgn) rfl (by rw[htl];unfold InI64;omega) (by rw[htl];omega) (by omega) (hsite n lo hlo) hz1 (by omega) f2 rfl (by omega) g4 (by omega) (by omega) (by omega) (by omega) (by unfold InI64;omega) ?_
     rw[show (((j+1:Nat):Int)-1-1)=(j:Int)-1 from by omega]
     exact next U2 w g2 g3 (by omega)
set_option maxHeartbeats 1000000 in
theorem div_step{a b zb v u q:Words}{v1 v2:UInt32}{s n m V N j:Nat}(dv:Dv a b zb v v1 v2 s n m V N)(hj:j+1≤m)(hul:u.length=a.length+1)(hql:q.length=m)(hlow:nat (u.drop (j+1))<V)(hinv:N=nat (q.drop (j+1))*4294967296^(j+1)*V+nat u)
  (ih:∀(u q:Words),u.length=a.length+1→q.length=m→nat (u.drop j)<V→N=nat (q.drop j)*4294967296^j*V+nat u →
   integer_divide.Loop1 (s:Int) zb b (a.length+1) m v1 v2 ((j:Int)-1) u q (.tup [wordsPV (words (nat a/nat b)),wordsPV (words (nat a%nat b))])) :
  integer_divide.Loop1 (s:Int) zb b (a.length+1) m v1 v2 (((j+1:Nat):Int)-1) u q (.tup [wordsPV (words (nat a/nat b)),wordsPV (words (nat a%nat b))]):=by
 have hs32:=dv.hs32
 have hal:=dv.hal
 have hm:=dv.hm
 have hvl:=dv.hvl
 have hVlt:=dv.hVlt
 have hVd:=dv.hVd
 have hvt:=dv.hvt
 have hv1p:=dv.hv1p
 have hv:=dv.hv
 obtain⟨U,hU⟩:∃U,U=(u.drop j).take (n+3):=⟨_,rfl⟩
 obtain⟨A,hA⟩:∃A,A=u.take j:=⟨_,rfl⟩
 obtain⟨C,hC⟩:∃C,C=u.drop (j+(n+3)):=⟨_,rfl⟩
 have hUl:U.length=n+3:=by rw[hU];simp;omega
 have hAl:A.length=j:=by rw[hA];simp;omega
 have hu:u=A++(U++C):=by
  rw[hA,hU,hC,show j+(n+3)=j+(n+3) from rfl,←List.drop_drop,List.take_append_drop,List.take_append_drop]
 obtain⟨R,hR⟩:∃R,R=nat (u.drop j):=⟨_,rfl⟩
 obtain⟨x,hx⟩:∃x,u[j]? = some x:=⟨_,List.getElem?_eq_getElem (by omega)⟩
 have hRlt:R<V*4294967296:=by
  rw[hR,nat_drop hx]
  have h2:=w_lt x
  omega
 have hseg:=nat_seg u j (n+3) (by omega)
 rw[←hU,←hC,←hR] at hseg
 have hpow3:(4294967296:Nat)^(n+3)=4294967296^(n+2)*4294967296:=Nat.pow_succ ..
 have hC0:nat C=0:=by
  refine Nat.eq_zero_of_not_pos fun hp => ?_
  have h2:=Nat.mul_le_mul_left (4294967296^(n+3)) hp
  omega
 rw[hC0,Nat.mul_zero,Nat.add_zero] at hseg
 obtain⟨hi,hhi⟩:∃x,U[n+2]? = some x:=⟨_,List.getElem?_eq_getElem (by omega)⟩
 obtain⟨mi,hmi⟩:∃x,U[n+1]? = some x:=⟨_,List.getElem?_eq_getElem (by omega)⟩
 obtain⟨lo,hlo⟩:∃x,U[n]? = some x:=⟨_,List.getElem?_eq_getElem (by omega)⟩
 have h3:=nat_top3 U n hUl hlo hmi hhi
 have hUt:=nat_lt (U.take n)
 rw[List.length_take,Nat.min_eq_left (by omega)] at hUt
 obtain⟨head,hhead⟩:∃h,h=hi.toNat*4294967296+mi.toNat:=⟨_,rfl⟩
 rw[←hhead,←hseg] at h3
 have kn:Kn V R (4294967296^n) v1.toNat v2.toNat head lo.toNat (nat (U.take n)) :=
  ⟨by rw[hVd];omega,by rw[hVd,Nat.add_mul _ 1,Nat.one_mul];omega,h3,hUt,w_lt lo,w_lt v2,hv1p,hRlt⟩
 obtain⟨Q,hQ⟩:∃Q,R/V=Q:=⟨_,rfl⟩
 have kStart:=kn.start
 rw[hQ] at kStart
 have pt:Pt u U A C n j R Q V:=⟨hUl,hAl,hu,hseg,hQ,hC0,hR,by omega,by omega⟩
 have hAu:nat u=nat A+4294967296^j*R:=by
  have:=nat_split u j (by omega)
  rw[←hA,←hR] at this;exact this
 have hhi2:=w_lt hi
 have hmi2:=w_lt mi
 have hlo2:=w_lt lo
 have hv12:=w_lt v1
 have htl:(zb.take b.length).length=n+2:=by rw[←hv];exact hvl
 have e32:(2:Nat)^min 32 64=4294967296:=by decide
 have hsite:∀(k:Nat) (w:UInt32),U[k]? = some w→u[(0+j*1)+k]? = some w:=fun k w hk=>by
  rw[hu,Nat.zero_add,Nat.mul_one,←hAl];exact get_mid A U C k w hk
 have inner:=div_inner dv pt kn hj hul hql hlo (div_next dv pt hj hul hql hAu hinv ih)
 clear hVlt hvt hVd hseg hpow3 h3 hUt hRlt hlow hinv hAu ih
 have hhl:head<18446744073709551616:=by omega
 have hdl:head/v1.toNat≤head:=Nat.div_le_self _ _
 have hml:=Nat.mod_lt head hv1p
 have hz:(hi.toNat*2^min 32 64)%18446744073709551616%18446744073709551616 ||| mi.toNat%18446744073709551616=head:=by
  rw[e32,Nat.mod_mod,hhead];exact or_low hhi2 hmi2
 refine integer_divide.l10 (s:Int) zb b (a.length+1) m v1 v2 _ u q j (j+(n+3)) hi _ (n+1) mi head (head/v1.toNat) (head%v1.toNat) (by omega) (by rw[htl];unfold InI64;omega) (by rw[htl];unfold InI64;omega) (by omega) (by rw[htl];omega) (by omega) (by omega) (by omega) (by rw[htl];omega)
  (by rw[htl];exact hsite (n+2) hi hhi) rfl (by rw[htl];unfold InI64;omega) (by rw[htl];omega) (by omega) (hsite (n+1) mi hmi) hz (by omega) (by rw[Nat.mod_eq_of_lt (by omega)]) rfl ?_
 refine inner 4294967296 _ _ (by omega) (by omega) ?_ kStart (by omega)
 have:=Nat.div_add_mod head v1.toNat
 rw[Nat.mul_comm] at this;exact this
set_option maxHeartbeats 1000000 in
theorem divide(a b:Words)(ha:cn a=true)(hb:cn b=true)(hne:b≠[])(hal:a.length≤2199023255551)(hbl:b.length≤2199023255552) :
  Contract prg 138 [wordsPV a,wordsPV b] (.tup [wordsPV (words (nat a/nat b)),wordsPV (words (nat a%nat b))]):=by
 have hbp:0<nat b:=cn_pos hb hne
 have hcmp:=compare a b ha hb (by omega)
 by_cases hlt:nat a<nat b
 ·rw[cmpI_lt (by omega)] at hcmp
  rw[Nat.div_eq_of_lt hlt,Nat.mod_eq_of_lt hlt]
  exact integer_divide.e0 a b (-1) _ hcmp (by omega) (trim a (by omega))
 have hcge:0≤cmpI (nat a) (nat b):=by unfold cmpI;split<;>(try split)<;>omega
 by_cases h1:b.length=1
 ·obtain⟨v,rfl⟩:∃v,b=[v]:=List.length_eq_one_iff.1 h1
  have hn:nat [v]=v.toNat:=by simp[nat]
  rw[hn] at hbp hcge hcmp ⊢
  have hs:=short a v (by omega) (by omega)
  have ht:=trim [UInt32.ofNat (nat a%v.toNat)] (by simp)
  have hn2:nat [UInt32.ofNat (nat a%v.toNat)]=nat a%v.toNat:=by
   have:=Nat.mod_lt (nat a) hbp
   have:=w_lt v
   simp only[nat,w_ofNat];omega
  rw[hn2] at ht
  exact integer_divide.e1 a [v] _ v _ _ _ hcmp hcge rfl rfl hs ht
 obtain⟨n,hn⟩:∃n,b.length=n+2:=⟨b.length-2,by have:=List.length_pos_iff.2 hne;omega⟩
 obtain⟨bt,hbt⟩:∃v,b[n+1]? = some v:=⟨_,List.getElem?_eq_getElem (by omega)⟩
 have hbt0:bt.toNat≠0:=(cn_last (by rw[hn];exact hbt)).1 hb
 have hble:=blen_le (n:=bt.toNat) (k:=32) (w_lt bt)
 obtain⟨kb,hkb,hkb1,hkb2⟩:=blen_spec hbt0
 obtain⟨s,hs⟩:∃s,s=32-blen bt.toNat:=⟨_,rfl⟩
 have hs32:s<32:=by omega
 obtain⟨zb,hzbl,hzbn,hzbc,_⟩:=up b s hbl hs32
 obtain⟨za,hzal,hzan,_,hzac⟩:=up a s (by omega) hs32
 have hP:=Nat.two_pow_pos s
 have hbtop:nat b<4294967296^(n+1)*2^(kb+1):=by
  have h2:=nat_take_succ hbt
  rw[nat_take_all (by omega)] at h2
  have h3:=nat_lt (b.take (n+1))
  rw[List.length_take,Nat.min_eq_left (by omega)] at h3
  have h4:=Nat.mul_le_mul_left (4294967296^(n+1)) (show bt.toNat+1≤2^(kb+1) by omega)
  rw[Nat.mul_add] at h4;omega
 have hVlt:nat b*2^s<4294967296^(n+2):=by
  have h2:=Nat.mul_lt_mul_of_pos_right hbtop hP
  have h3:2^(kb+1)*2^s=4294967296:=by rw[←Nat.pow_add,show kb+1+s=32 from by omega]
  rw[Nat.mul_assoc,h3,←Nat.pow_succ] at h2
  exact h2
 obtain⟨v,hv⟩:∃v,v=zb.take b.length:=⟨_,rfl⟩
 have hvl:v.length=n+2:=by rw[hv];simp;omega
 have hvn:nat v=nat b*2^s:=by
  rw[←hzbn,hv]
  have h2:=nat_split zb b.length (by omega)
  have h3:nat (zb.drop b.length)=0:=by
   refine Nat.eq_zero_of_not_pos fun hp => ?_
   have:=Nat.mul_le_mul_left (4294967296^b.length) hp
   rw[hn] at this h2
   omega
  rw[h3] at h2;omega
 obtain⟨V,hV⟩:∃V,V=nat b*2^s:=⟨_,rfl⟩
 rw[←hV] at hvn hVlt
 have hbge:4294967296^(n+1)≤nat b:=by
  have:=lt_of_cn hb hne
  rwa[hn] at this
 have hVge:4294967296^(n+1)≤V:=by
  have:=Nat.mul_le_mul_left (nat b) hP
  omega
 have hVp:0<V:=Nat.lt_of_lt_of_le (Nat.pow_pos (by omega)) hVge
 obtain⟨v1,hv1⟩:∃x,v[n+1]? = some x:=⟨_,List.getElem?_eq_getElem (by omega)⟩
 obtain⟨v2,hv2⟩:∃x,v[n]? = some x:=⟨_,List.getElem?_eq_getElem (by omega)⟩
 have hVd:=nat_top2 v n hvl hv2 hv1
 rw[hvn] at hVd
 have hvt:=nat_lt (v.take n)
 rw[List.length_take,Nat.min_eq_left (by omega)] at hvt
 have hv1p:0<v1.toNat:=by
  refine Nat.pos_of_ne_zero fun h0 => ?_
  rw[h0] at hVd
  have h2:=w_lt v2
  have h3:(v2.toNat+1)*4294967296^n≤4294967296*4294967296^n:=Nat.mul_le_mul_right _ h2
  have h4:(4294967296:Nat)^(n+1)=4294967296*4294967296^n:=by rw[Nat.pow_succ,Nat.mul_comm]
  rw[Nat.add_mul] at h3
  simp at hVd
  omega
 have hla:b.length≤a.length:=by
  refine Nat.le_of_not_lt fun h => ?_
  have h2:=nat_lt a
  have h3:=pow_le (show a.length≤n+1 by omega)
  omega
 obtain⟨m,hm⟩:∃m,a.length+1=m+(n+2):=⟨a.length+1-(n+2),by omega⟩
 obtain⟨N,hN⟩:∃N,N=nat a*2^s:=⟨_,rfl⟩
 rw[←hN] at hzan
 have res:∀q r:Nat,N=q*V+r→r<V→nat a/nat b=q∧r/2^s=nat a%nat b:=by
  intro q r h2 h3
  have h4:N/V=nat a/nat b:=by rw[hN,hV];exact Nat.mul_div_mul_right _ _ hP
  have h5:N%V=nat a%nat b*2^s:=by rw[hN,hV];exact Nat.mul_mod_mul_right _ _ _
  have h6:N/V=q:=by rw[h2,Nat.mul_comm,Nat.mul_add_div hVp,Nat.div_eq_of_lt h3,Nat.add_zero]
  have h7:N%V=r:=by rw[h2,Nat.mul_comm,Nat.mul_add_mod,Nat.mod_eq_of_lt h3]
  refine⟨by rw[←h4,h6],?_⟩
  rw[←h7,h5,Nat.mul_div_cancel _ hP]
 have dv:Dv a b zb v v1 v2 s n m V N:=⟨hv,hs32,hal,hm,hvl,hvn,hVlt,hVp,hv1,hv2,hVd,hvt,hv1p,res⟩
 have loop:∀(jj:Nat) (u q:Words),jj≤m→u.length=a.length+1→q.length=m→nat (u.drop jj)<V→N=nat (q.drop jj)*4294967296^jj*V+nat u →
   integer_divide.Loop1 (s:Int) zb b (a.length+1) m v1 v2 ((jj:Int)-1) u q (.tup [wordsPV (words (nat a/nat b)),wordsPV (words (nat a%nat b))]):=by
  intro jj
  induction jj with
  |zero =>
   intro u q _ hul hql hlow hinv
   simp only[List.drop_zero,Nat.pow_zero,Nat.mul_one] at hinv hlow
   obtain⟨e1,e2⟩:=res _ _ hinv hlow
   rw[e1,←e2]
   exact integer_divide.l11 (s:Int) zb b (a.length+1) m v1 v2 _ u q _ _ (by omega) hql.symm hul.symm (trim q (by omega)) (down u s (by omega) hs32)
  |succ j ih =>
   intro u q hj hul hql hlow hinv
   exact div_step dv hj hul hql hlow hinv (fun u q=>ih u q (by omega))
 have htl:(zb.take b.length).length=n+2:=by rw[←hv];exact hvl
 refine integer_divide.e2 a b _ (n+1) bt (s:Int) zb za (a.length+1) m (n+1) v1 n v2 hcmp hcge h1 (by unfold InI64;omega) (by omega) hbt (by rw[hs];exact CBits.LeadingZeros32 bt) hzbc (by omega) hzac (by rw[htl];unfold InI64;omega) (by rw[htl];omega) (by omega) (by rw[htl];unfold InI64;omega) (by rw[htl];omega) (by rw[←hv];exact hv1) (by rw[htl];unfold InI64;omega) (by rw[htl];omega) (by rw[←hv];exact hv2) (by unfold InI64;omega) ?_
 refine loop m za _ (Nat.le_refl _) hzal (by simp) ?_ ?_
 ·
  have h2:=nat_split za m (by omega)
  refine Nat.lt_of_not_le fun h => ?_
  have h3:=Nat.mul_le_mul_left (4294967296^m) h
  have h4:4294967296^m*V≤N:=by omega
  have h5:nat a*2^s<4294967296^a.length*2^s:=Nat.mul_lt_mul_of_pos_right (nat_lt a) hP
  have h6:4294967296^m*V=4294967296^m*nat b*2^s:=by rw[hV,Nat.mul_assoc]
  have h7:4294967296^a.length≤4294967296^m*nat b:=by
   have:=Nat.mul_le_mul_left (4294967296^m) hbge
   rw[←Nat.pow_add,show m+(n+1)=a.length from by omega] at this
   exact this
  have h8:=Nat.mul_le_mul_right (2^s) h7
  omega
 ·rw[List.drop_of_length_le (by simp),hzan];simp[nat]
end CInt
end Go.Proofs.YtboilcfohmmpbaaGreatDoor.Sym
namespace Go.Proofs.YtboilcfohmmpbaaGreatDoor.Sym
open Go Path
set_option linter.unusedVariables false
abbrev wl(i:Int):Nat:=(words i.natAbs).length
theorem wl_neg(i:Int):wl (-i)=wl i:=by unfold wl;rw[Int.natAbs_neg]
theorem wl_le{i:Int}{k:Nat}(h:i.natAbs<4294967296^k):wl i≤k:=len_of_lt h
theorem wl_lt(i:Int):i.natAbs<4294967296^wl i:=lt_of_len _
theorem wl_add(i j:Int):wl (i+j)≤max (wl i) (wl j)+1:=by
 refine wl_le ?_
 have h1:=wl_lt i
 have h2:=wl_lt j
 have h3:=pow_le (Nat.le_max_left (wl i) (wl j))
 have h4:=pow_le (Nat.le_max_right (wl i) (wl j))
 have h5:=Int.natAbs_add_le i j
 rw[Nat.pow_succ]
 omega
theorem wl_mul(i j:Int):wl (i*j)≤wl i+wl j:=by
 refine wl_le ?_
 rw[Int.natAbs_mul,Nat.pow_add]
 exact Nat.mul_lt_mul'' (wl_lt i) (wl_lt j)
theorem val_natAbs_le(a:AWhole):wl a.val≤a.mag.length:=by
 unfold wl
 rw[CInt.mag_val]
 cases a.valid<;>simp
namespace CInt
def sgn(i:Int):Int:=cmpI i 0
theorem sgn_neg{i:Int}(h:i<0):sgn i = -1:=cmpI_lt h
theorem sgn_pos{i:Int}(h:0<i):sgn i=1:=cmpI_gt h
theorem sgn_zero:sgn 0=0:=rfl
theorem Sign(a:AWhole)(h:Fit a.mag):Contract prg 72 [a.pv] (vI (sgn a.val)):=by
 have hm:=mag a h
 by_cases h0:a.val=0
 ·rw[h0,sgn_zero]
  exact integer_Sign.e0 a _ hm (by rw[h0];rfl)
 ·have hl:(words a.val.natAbs).length≠0:=by rw[Ne,words_len0];omega
  have hv:a.valid=true:=by
   cases hv:a.valid with
   |true=>rfl
   |false=>exact absurd (by unfold AWhole.val;rw[hv];rfl) h0
  by_cases hn:a.val<0
  ·rw[sgn_neg hn]
   have:=neg_val a
   rw[hv,decide_eq_true hn] at this
   exact integer_Sign.e1 a _ hm hl (by simpa using this.symm)
  ·rw[sgn_pos (by omega)]
   have:=neg_val a
   rw[hv,decide_eq_false hn] at this
   exact integer_Sign.e2 a _ hm hl (by simpa using this.symm)
theorem Cmp(a b:AWhole)(ha:Fit a.mag)(hb:Fit b.mag):Contract prg 63 [a.pv,b.pv] (vI (cmpI a.val b.val)):=by
 have h1:=Sign a ha
 have h2:=Sign b hb
 have h3:=mag a ha
 have h4:=mag b hb
 have h5:=neg a ha
 have la:=val_natAbs_le a
 by_cases he:sgn a.val=sgn b.val
 ·have hc:=compare (words a.val.natAbs) (words b.val.natAbs) (cn_words _) (cn_words _) (by have:(words a.val.natAbs).length≤a.mag.length:=la;omega)
  rw[nat_words,nat_words] at hc
  unfold sgn cmpI at he
  by_cases hn:a.val<0
  ·have hbn:b.val<0:=by
    rw[if_pos hn] at he
    split at he
    ·assumption
    ·split at he<;>omega
   have e:cmpI a.val b.val = -(cmpI (a.val.natAbs:Int) (b.val.natAbs:Int)):=by
    unfold cmpI
    split<;>split<;>(try split)<;>(try split)<;>omega
   rw[e]
   refine integer_Cmp.e2 a b _ _ _ _ _ _ h1 h2 (by unfold sgn cmpI;exact he) h3 h4 hc h5 (decide_eq_true hn) ?_
   unfold InI64 cmpI;split<;>(try split)<;>omega
  ·have hbn:¬b.val<0:=by
    intro hb'
    rw[if_neg hn,if_pos hb'] at he
    split at he<;>omega
   have e:cmpI a.val b.val=cmpI (a.val.natAbs:Int) (b.val.natAbs:Int):=by
    unfold cmpI
    split<;>split<;>(try split)<;>(try split)<;>omega
   rw[e]
   exact integer_Cmp.e3 a b _ _ _ _ _ _ h1 h2 (by unfold sgn cmpI;exact he) h3 h4 hc h5 (decide_eq_false hn)
 ·by_cases hlt:sgn a.val<sgn b.val
  ·rw[cmpI_lt (by
    unfold sgn cmpI at hlt
    split at hlt<;>split at hlt<;>(try split at hlt)<;>(try split at hlt)<;>omega)]
   exact integer_Cmp.e0 a b _ _ h1 h2 he hlt
  ·rw[cmpI_gt (by
    unfold sgn cmpI at hlt he
    split at hlt<;>split at hlt<;>(try split at hlt)<;>(try split at hlt)<;>(simp_all;try omega))]
   exact integer_Cmp.e1 a b _ _ h1 h2 he (by omega)
theorem Neg(a:AWhole)(h:Fit a.mag):Contract prg 62 [a.pv] (Sym.whole (-a.val)).pv:=by
 have h3:=mag a h
 have h5:=neg a h
 have la:=val_natAbs_le a
 have hw:=whole (!decide (a.val<0)) (words a.val.natAbs) (by have:(words a.val.natAbs).length≤a.mag.length:=la;omega)
 have e:(bif !decide (a.val<0) then -(nat (words a.val.natAbs):Int) else (nat (words a.val.natAbs):Int)) = -a.val:=by
  rw[nat_words]
  by_cases h:a.val<0
  ·simp[h];omega
  ·simp[h];omega
 rw[e] at hw
 exact integer_Neg.e0 a _ _ _ h5 h3 hw
theorem Add(a b:AWhole)(ha:Fit a.mag)(hb:Fit b.mag):Contract prg 117 [a.pv,b.pv] (Sym.whole (a.val+b.val)).pv:=by
 have h1:=mag a ha
 have h2:=mag b hb
 have h3:=neg a ha
 have h4:=neg b hb
 have la:(words a.val.natAbs).length≤a.mag.length:=val_natAbs_le a
 have lb:(words b.val.natAbs).length≤b.mag.length:=val_natAbs_le b
 by_cases hs:decide (a.val<0)=decide (b.val<0)
 ·have hp:=plus (words a.val.natAbs) (words b.val.natAbs) (by omega) (by omega)
  rw[nat_words,nat_words] at hp
  have hl:=len_of_lt (n:=a.val.natAbs+b.val.natAbs) (k:=max (words a.val.natAbs).length (words b.val.natAbs).length+1) (by
   have g1:=lt_of_len a.val.natAbs
   have g2:=lt_of_len b.val.natAbs
   have g3:=pow_le (Nat.le_max_left (words a.val.natAbs).length (words b.val.natAbs).length)
   have g4:=pow_le (Nat.le_max_right (words a.val.natAbs).length (words b.val.natAbs).length)
   rw[Nat.pow_succ];omega)
  have hw:=whole (decide (a.val<0)) (words (a.val.natAbs+b.val.natAbs)) (by omega)
  rw[nat_words] at hw
  have e:(bif decide (a.val<0) then -((a.val.natAbs+b.val.natAbs:Nat):Int) else ((a.val.natAbs+b.val.natAbs:Nat):Int))=a.val+b.val:=by
   by_cases h:a.val<0
   ·have:b.val<0:=by simpa[h] using hs.symm
    simp[h];omega
   ·have:¬b.val<0:=by simpa[h] using hs.symm
    simp[h];omega
  rw[e] at hw
  exact integer_Add.e0 a b _ _ _ _ _ _ _ h1 h2 h3 h4 hs h3 hp hw
 ·have hc:=compare (words a.val.natAbs) (words b.val.natAbs) (cn_words _) (cn_words _) (by omega)
  rw[nat_words,nat_words] at hc
  by_cases hge:b.val.natAbs≤a.val.natAbs
  ·have hl:=less (words a.val.natAbs) (words b.val.natAbs) (by omega) (by rw[nat_words,nat_words];exact hge)
   rw[nat_words,nat_words] at hl
   have hlen:=len_mono (show a.val.natAbs-b.val.natAbs≤a.val.natAbs by omega)
   have hw:=whole (decide (a.val<0)) (words (a.val.natAbs-b.val.natAbs)) (by omega)
   rw[nat_words] at hw
   have e:(bif decide (a.val<0) then -((a.val.natAbs-b.val.natAbs:Nat):Int) else ((a.val.natAbs-b.val.natAbs:Nat):Int))=a.val+b.val:=by
    by_cases h:a.val<0
    ·have:¬b.val<0:=by simpa[h] using hs
     simp[h];omega
    ·have:b.val<0:=by simpa[h] using hs
     simp[h];omega
   rw[e] at hw
   exact integer_Add.e1 a b _ _ _ _ _ _ _ _ h1 h2 h3 h4 hs hc (by unfold cmpI;split<;>(try split)<;>omega) h3 hl hw
  ·have hl:=less (words b.val.natAbs) (words a.val.natAbs) (by omega) (by rw[nat_words,nat_words];omega)
   rw[nat_words,nat_words] at hl
   have hlen:=len_mono (show b.val.natAbs-a.val.natAbs≤b.val.natAbs by omega)
   have hw:=whole (decide (b.val<0)) (words (b.val.natAbs-a.val.natAbs)) (by omega)
   rw[nat_words] at hw
   have e:(bif decide (b.val<0) then -((b.val.natAbs-a.val.natAbs:Nat):Int) else ((b.val.natAbs-a.val.natAbs:Nat):Int))=a.val+b.val:=by
    by_cases h:b.val<0
    ·have:¬a.val<0:=by intro h';simp[h,h'] at hs
     simp[h];omega
    ·have:a.val<0:=by
      refine Classical.byContradiction fun h' => ?_
      simp[h,h'] at hs
     simp[h];omega
   rw[e] at hw
   exact integer_Add.e2 a b _ _ _ _ _ _ _ _ h1 h2 h3 h4 hs hc (by unfold cmpI;split<;>(try split)<;>omega) h4 hl hw
theorem Mul(a b:AWhole)(ha:Fit a.mag)(hb:Fit b.mag):Contract prg 64 [a.pv,b.pv] (Sym.whole (a.val*b.val)).pv:=by
 have h1:=mag a ha
 have h2:=mag b hb
 have h3:=neg a ha
 have h4:=neg b hb
 have la:(words a.val.natAbs).length≤a.mag.length:=val_natAbs_le a
 have lb:(words b.val.natAbs).length≤b.mag.length:=val_natAbs_le b
 have ht:=times (words a.val.natAbs) (words b.val.natAbs) (by omega) (by omega)
 rw[nat_words,nat_words] at ht
 have hl:(words (a.val.natAbs*b.val.natAbs)).length≤(words a.val.natAbs).length+(words b.val.natAbs).length:=by
  have:=wl_mul a.val b.val
  unfold wl at this
  rw[Int.natAbs_mul] at this;exact this
 have hw:=whole (!(decide (a.val<0)==decide (b.val<0))) (words (a.val.natAbs*b.val.natAbs)) (by omega)
 rw[nat_words] at hw
 have e:(bif !(decide (a.val<0)==decide (b.val<0)) then -((a.val.natAbs*b.val.natAbs:Nat):Int) else ((a.val.natAbs*b.val.natAbs:Nat):Int))=a.val*b.val:=by
  by_cases h:a.val<0<;>by_cases h':b.val<0<;>simp only[h,h',decide_true,decide_false,beq_self_eq_true,Bool.not_true,cond_false,Bool.not_false,cond_true,show(true==false)=false from rfl,show(false==true)=false from rfl]
  ·rw[←Int.natAbs_mul,Int.natAbs_of_nonneg (Int.mul_nonneg_of_nonpos_of_nonpos (by omega) (by omega))]
  ·rw[←Int.natAbs_mul,Int.ofNat_natAbs_of_nonpos (Int.mul_nonpos_of_nonpos_of_nonneg (by omega) (by omega))];omega
  ·rw[←Int.natAbs_mul,Int.ofNat_natAbs_of_nonpos (Int.mul_nonpos_of_nonneg_of_nonpos (by omega) (by omega))];omega
  ·rw[←Int.natAbs_mul,Int.natAbs_of_nonneg (Int.mul_nonneg (by omega) (by omega))]
 rw[e] at hw
 exact integer_Mul.e0 a b _ _ _ _ _ _ h3 h4 h1 h2 ht hw
theorem Of(n:Int)(h:InI64 n):Contract prg 69 [vI n] (Sym.whole n).pv:=by
 obtain⟨g1,g2⟩:=h
 have e32:(2:Nat)^min 32 64=4294967296:=by decide
 have key:∀m:Nat,m=n.natAbs→∃w w1:UInt32,m%4294967296=w.toNat∧m/4294967296%4294967296=w1.toNat∧Contract prg 108 [(vB (decide (n<0))),(wordsPV [w,w1])] (Sym.whole n).pv:=by
  intro m hm
  obtain⟨w,hw⟩:=w_ex (m%4294967296) (by omega)
  obtain⟨w1,hw1⟩:=w_ex (m/4294967296%4294967296) (by omega)
  refine⟨w,w1,hw.symm,hw1.symm,?_⟩
  have:=whole (decide (n<0)) [w,w1] (by simp)
  have e:nat [w,w1]=m:=by simp only[nat,hw,hw1];omega
  rw[e,hm] at this
  have e2:(bif decide (n<0) then -(n.natAbs:Int) else (n.natAbs:Int))=n:=by
   by_cases h:n<0
   ·simp[h];omega
   ·simp[h];omega
  rw[e2] at this;exact this
 by_cases hn:n<0
 ·obtain⟨w,w1,q1,q2,q3⟩:=key n.natAbs rfl
  exact integer_Of.e0 n (n%18446744073709551616).toNat n.natAbs w _ w1 _ (by omega) hn (by omega) q1 (by rw[e32]) q2 q3
 ·obtain⟨w,w1,q1,q2,q3⟩:=key n.natAbs rfl
  exact integer_Of.e1 n n.natAbs w _ w1 _ (by omega) (by omega) q1 (by rw[e32]) q2 q3
theorem Div(a b:AWhole)(ha:Fit a.mag)(hb:Fit b.mag)(h0:b.val≠0) :
  Contract prg 107 [a.pv,b.pv] (.tup [(Sym.whole (a.val/b.val)).pv,(Sym.whole (a.val%b.val)).pv,.nilI]):=by
 have h1:=mag a ha
 have h2:=mag b hb
 have h3:=neg a ha
 have h4:=neg b hb
 have la:(words a.val.natAbs).length≤a.mag.length:=val_natAbs_le a
 have lb:(words b.val.natAbs).length≤b.mag.length:=val_natAbs_le b
 have hb0:(words b.val.natAbs).length≠0:=by rw[Ne,words_len0];omega
 have hbp:0<b.val.natAbs:=by omega
 have hd:=divide (words a.val.natAbs) (words b.val.natAbs) (cn_words _) (cn_words _) (by intro e;rw[e] at hb0;simp at hb0) (by omega) (by omega)
 rw[nat_words,nat_words] at hd
 have hq:=len_mono (Nat.div_le_self a.val.natAbs b.val.natAbs)
 have hr:=len_mono (Nat.le_of_lt (Nat.mod_lt a.val.natAbs hbp))
 have hdm:=Nat.div_add_mod a.val.natAbs b.val.natAbs
 have hml:=Nat.mod_lt a.val.natAbs hbp
 generalize hQ:a.val.natAbs/b.val.natAbs=q at *
 generalize hR:a.val.natAbs%b.val.natAbs=r at *
 have sb:b.val=if b.val<0 then -(b.val.natAbs:Int) else (b.val.natAbs:Int):=by split<;>omega
 have uniq:∀x y:Int,a.val=b.val*x+y→0≤y→y<b.val.natAbs→a.val/b.val=x∧a.val%b.val=y:=by
  intro x y e1 e2 e3
  rcases Int.lt_or_gt_of_ne h0 with hb'|hb'
  ·exact(Int.ediv_emod_unique' hb').2 ⟨by omega,e2,by omega⟩
  ·exact(Int.ediv_emod_unique hb').2 ⟨by omega,e2,by omega⟩
 by_cases hn:a.val<0
 ·by_cases hr0:r=0
  ·have hw:=whole (!(decide (a.val<0)==decide (b.val<0))) (words q) (by omega)
   have hw2:=whole false (words r) (by omega)
   rw[nat_words] at hw hw2
   subst hr0
   have e:a.val/b.val=(bif !(decide (a.val<0)==decide (b.val<0)) then -(q:Int) else (q:Int))∧a.val%b.val=0:=by
    refine uniq _ 0 ?_ (by omega) (by omega)
    have hq':(a.val.natAbs:Int)=(b.val.natAbs:Int)*q:=by rw[←hdm];simp
    by_cases h':b.val<0
    ·simp only[hn,h',decide_true,beq_self_eq_true,Bool.not_true,cond_false]
     have:(b.val.natAbs:Int) = -b.val:=by omega
     rw[this] at hq'
     have:(a.val.natAbs:Int) = -a.val:=by omega
     rw[this,Int.neg_mul] at hq'
     omega
    ·simp only[hn,h',decide_true,decide_false,show(true==false)=false from rfl,Bool.not_false,cond_true]
     have:(b.val.natAbs:Int)=b.val:=by omega
     rw[this] at hq'
     have:(a.val.natAbs:Int) = -a.val:=by omega
     rw[this] at hq'
     rw[Int.mul_neg];omega
   rw[e.1,e.2]
   exact integer_Div.e2 a b _ _ _ _ _ _ _ _ _ h2 hb0 h1 hd h3 (decide_eq_true hn) (by rw[words_zero];simp) h3 h4 hw hw2
  ·have hp:=plus (words q) [1] (by omega) (by simp)
   have hl:=less (words b.val.natAbs) (words r) (by omega) (by rw[nat_words,nat_words];omega)
   rw[nat_words] at hp
   rw[nat_words,nat_words] at hl
   have e1:nat [1]=1:=rfl
   rw[e1] at hp
   have hl1:=len_of_lt (n:=q+1) (k:=(words q).length+1) (by have:=lt_of_len q;rw[Nat.pow_succ];omega)
   have hl2:=len_mono (show b.val.natAbs-r≤b.val.natAbs by omega)
   have hw:=whole (!(decide (a.val<0)==decide (b.val<0))) (words (q+1)) (by omega)
   have hw2:=whole false (words (b.val.natAbs-r)) (by omega)
   rw[nat_words] at hw hw2
   have e:a.val/b.val=(bif !(decide (a.val<0)==decide (b.val<0)) then -((q+1:Nat):Int) else ((q+1:Nat):Int))∧a.val%b.val=((b.val.natAbs-r:Nat):Int):=by
    refine uniq _ _ ?_ (by omega) (by omega)
    have hq':(a.val.natAbs:Int)=(b.val.natAbs:Int)*q+r:=by rw[←hdm];simp
    by_cases h':b.val<0
    ·simp only[hn,h',decide_true,beq_self_eq_true,Bool.not_true,cond_false]
     have e5:(b.val.natAbs:Int) = -b.val:=by omega
     rw[e5] at hq'
     have:(a.val.natAbs:Int) = -a.val:=by omega
     rw[this,Int.neg_mul] at hq'
     rw[show ((q+1:Nat):Int)=(q:Int)+1 from by omega,Int.mul_add]
     omega
    ·simp only[hn,h',decide_true,decide_false,show(true==false)=false from rfl,Bool.not_false,cond_true]
     have:(b.val.natAbs:Int)=b.val:=by omega
     rw[this] at hq'
     have:(a.val.natAbs:Int) = -a.val:=by omega
     rw[this] at hq'
     rw[show ((q+1:Nat):Int)=(q:Int)+1 from by omega,Int.mul_neg,Int.mul_add];omega
   rw[e.1,e.2]
   exact integer_Div.e1 a b _ _ _ _ _ _ _ _ _ _ _ h2 hb0 h1 hd h3 (decide_eq_true hn) (by have:=(words_len0 (n:=r)).1;omega) hp hl h3 h4 hw hw2
 ·have hw:=whole (!(decide (a.val<0)==decide (b.val<0))) (words q) (by omega)
  have hw2:=whole false (words r) (by omega)
  rw[nat_words] at hw hw2
  have e:a.val/b.val=(bif !(decide (a.val<0)==decide (b.val<0)) then -(q:Int) else (q:Int))∧a.val%b.val=(r:Int):=by
   refine uniq _ _ ?_ (by omega) (by omega)
   have hq':(a.val.natAbs:Int)=(b.val.natAbs:Int)*q+r:=by rw[←hdm];simp
   by_cases h':b.val<0
   ·simp only[hn,h',decide_true,decide_false,show(false==true)=false from rfl,Bool.not_false,cond_true]
    have e5:(b.val.natAbs:Int) = -b.val:=by omega
    rw[e5] at hq'
    have:(a.val.natAbs:Int)=a.val:=by omega
    rw[this,Int.neg_mul] at hq'
    rw[Int.mul_neg];omega
   ·simp only[hn,h',decide_false,beq_self_eq_true,Bool.not_true,cond_false]
    have:(b.val.natAbs:Int)=b.val:=by omega
    rw[this] at hq'
    have:(a.val.natAbs:Int)=a.val:=by omega
    rw[this] at hq'
    omega
  rw[e.1,e.2]
  exact integer_Div.e3 a b _ _ _ _ _ _ _ _ _ h2 hb0 h1 hd h3 (decide_eq_false hn) h3 h4 hw hw2
theorem Gcd(a b:AWhole)(ha:Fit a.mag)(hb:Fit b.mag):Contract prg 106 [a.pv,b.pv] (Sym.whole (Nat.gcd a.val.natAbs b.val.natAbs)).pv:=by
 have h1:=mag a ha
 have h2:=mag b hb
 have la:(words a.val.natAbs).length≤a.mag.length:=val_natAbs_le a
 have lb:(words b.val.natAbs).length≤b.mag.length:=val_natAbs_le b
 have loop:∀(k x y:Nat),y≤k→(words x).length≤1099511627776→(words y).length≤1099511627776→integer_Gcd.Loop1 (words x) (words y) (Sym.whole (Nat.gcd x y)).pv:=by
  intro k
  induction k with
  |zero =>
   intro x y hy hx _
   have:y=0:=by omega
   subst this
   have hw:=whole false (words x) (by omega)
   rw[nat_words] at hw
   rw[Nat.gcd_zero_right]
   exact integer_Gcd.l11 _ _ _ (by rw[words_zero];simp) hw
  |succ k ih =>
   intro x y hy hx hyl
   by_cases h0:y=0
   ·subst h0
    have hw:=whole false (words x) (by omega)
    rw[nat_words] at hw
    rw[Nat.gcd_zero_right]
    exact integer_Gcd.l11 _ _ _ (by rw[words_zero];simp) hw
   ·have hy0:(words y).length≠0:=by rw[Ne,words_len0];exact h0
    have hd:=divide (words x) (words y) (cn_words _) (cn_words _) (by intro e;rw[e] at hy0;simp at hy0) (by omega) (by omega)
    rw[nat_words,nat_words] at hd
    have hm:=Nat.mod_lt x (show 0<y by omega)
    refine integer_Gcd.l10 _ _ _ _ (by omega) hd ?_
    rw[Nat.gcd_comm,Nat.gcd_rec,Nat.gcd_comm]
    exact ih y (x%y) (by omega) hyl (Nat.le_trans (len_mono (Nat.le_of_lt hm)) hyl)
 exact integer_Gcd.e0 a b _ _ h1 h2 (loop _ _ _ (Nat.le_refl _) (by omega) (by omega))
end CInt
end Go.Proofs.YtboilcfohmmpbaaGreatDoor.Sym
