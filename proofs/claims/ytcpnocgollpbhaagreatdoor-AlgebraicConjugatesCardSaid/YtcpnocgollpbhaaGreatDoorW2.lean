/- Lemmas for the statements of this seat. -/
import Derived.Test.YtcpnocgollpbhaaGreatDoorW1
namespace Go.Proofs.YtcpnocgollpbhaaGreatDoor.Sym
open Go Go.RowKit
theorem yb(off:Nat):∀(l:List Value) (k:Nat) (cells:Array Value),
  ((l.zipIdx k).foldl (fun cs (x:Value×Nat)=>cs.setIfInBounds (off+x.2) x.1) cells).size=cells.size ∧
  ∀j,((l.zipIdx k).foldl (fun cs (x:Value×Nat)=>cs.setIfInBounds (off+x.2) x.1) cells)[j]? =
   if off+k≤j∧j<off+k+l.length∧j<cells.size then l[j-(off+k)]? else cells[j]?
 |[],k,cells=>by refine⟨rfl,fun j => ?_⟩;simp;omega
 |v::l,k,cells=>by
  obtain⟨h1,h2⟩:=yb off l (k+1) (cells.setIfInBounds (off+k) v);refine⟨by simpa using h1,fun j => ?_⟩;simp only[List.zipIdx_cons,List.foldl_cons,h2 j,Array.size_setIfInBounds,List.length_cons];by_cases hj:j<cells.size
  ·by_cases h3:j=off+k
   ·subst h3;rw[ag7 (by omega),ag9 (by omega)];simp[hj]
   ·by_cases h4:off+(k+1)≤j∧j<off+(k+1)+l.length∧j<cells.size
    ·rw[ag9 h4,ag9 (by omega)];rw[show j-(off+k)=(j-(off+(k+1)))+1 from by omega,ahu]
    ·rw[ag7 h4,ag7 (by omega),Array.getElem?_setIfInBounds_ne (by omega)]
  ·rw[ag7 (by omega),ag7 (by omega),Array.getElem?_eq_none (by simp;omega),Array.getElem?_eq_none (by omega)]
def eP{α:Type}(cells:List α)(off:Nat)(new:List α):List α:=cells.take off++(new++cells.drop (off+new.length))
theorem jN{α:Type}(cells:List α)(off:Nat)(new:List α)(h:off+new.length≤cells.length)(j:Nat) :
  (eP cells off new)[j]? = if off≤j∧j<off+new.length then new[j-off]? else cells[j]? := by
 unfold eP;rw[agZ];simp only[List.length_take,Nat.min_eq_left (show off≤cells.length by omega)];by_cases h1:j<off
 ·rw[ag9 h1,ag7 (by omega),agG,ag9 h1]
 ·rw[ag7 h1,agZ];by_cases h2:j<off+new.length
  ·rw[ag9 (by omega),ag9 (by omega)]
  ·rw[ag7 (by omega),ag7 (by omega),agS]
   congr 1
   omega
theorem vD{α:Type}(cells:List α)(off:Nat)(new:List α)(h:off+new.length≤cells.length):(eP cells off new).length=cells.length:=by unfold eP;simp;omega
def rQ(place:Nat→Option (Nat×Nat))(cells:List PV):List (Nat×PV)→Option (List PV)
 |[]=>some cells
 |(i,p)::rest =>
  match place i with
  |none=>none
  |some (off,size)=>bif Nat.beq p.cells.length size&&Nat.ble (off+p.cells.length) cells.length && !p.ti then rQ place (eP cells off p.cells) rest else none
def Aw(I:Nat→Prop)(w:World):List (Nat×PV)→List (Nat×Value)→Prop
 |[],[]=>True
 |(i,p)::r,(j,v)::s=>i=j∧Rd I w p v∧Aw I w r s
 |_,_=>False
theorem vE{I:Nat→Prop}{w:World}(place:Nat→Option (Nat×Nat)):∀(ps:List (Nat×PV)) (vs:List (Nat×Value)) (cells:List PV) (us:Array Value) (out:List PV),
  Aw I w ps vs→bE I w cells us.toList→rQ place cells ps=some out→∃arr,Instr.fill place us vs=some arr∧bE I w out arr.toList
 |[],[],cells,us,out,_,hc,h=>by
  injection h with h;subst h
  exact⟨us,rfl,hc⟩
 |(i,p)::r,(j,v)::s,cells,us,out,hp,hc,h=>by
  obtain⟨rfl,hv,hr⟩:=hp;unfold rQ at h;cases Fe:place i with
  |none=>simp[Fe] at h
  |some os =>
   obtain⟨off,size⟩:=os;simp only[Fe] at h;cases hb:(Nat.beq p.cells.length size&&Nat.ble (off+p.cells.length) cells.length && !p.ti) with
   |false=>simp[hb] at h
   |true =>
    simp only[hb,cond_true] at h;simp only[Bool.and_eq_true,Nat.beq_eq,Nat.ble_eq,Bool.not_eq_true'] at hb;obtain⟨⟨td,s7⟩,hb3⟩:=hb;have Wr:=hv.cells (fun vs e=>by subst e;simp[PV.ti] at hb3);have hl:p.cells.length=v.cells.size:=by simpa using Wr.1
    have rH:cells.length=us.size:=by simpa using hc.1
    obtain⟨f1,f2⟩:=yb off v.cells.toList 0 us;have NT:v.cells.zipIdx.foldl (fun cs (x:Value×Nat)=>cs.setIfInBounds (off+x.2) x.1) us=(v.cells.toList.zipIdx 0).foldl (fun cs (x:Value×Nat)=>cs.setIfInBounds (off+x.2) x.1) us:=by rw[←Array.foldl_toList,Array.toList_zipIdx]
    have D5:=vE place r s (eP cells off p.cells) (v.cells.zipIdx.foldl (fun cs (x:Value×Nat)=>cs.setIfInBounds (off+x.2) x.1) us) out hr (by
     rw[NT];refine⟨by rw[vD _ _ _ s7];simpa[f1] using rH,fun j c u He hu => ?_⟩;rw[jN _ _ _ s7] at He;rw[ahh,f2 j] at hu;simp only[Nat.add_zero,Array.length_toList] at hu;by_cases hj:off≤j∧j<off+p.cells.length
     ·rw[ag9 hj] at He;rw[ag9 (by omega)] at hu;exact Wr.2 _ c u He hu
     ·rw[ag7 hj] at He;rw[ag7 (by omega)] at hu;exact hc.2 j c u He (by simpa using hu)) h
    obtain⟨arr,ha,dI⟩:=D5;refine⟨arr,?_,dI⟩;unfold Instr.fill;simp only[Fe];rw[ag7 (by simp;omega)];exact ha
 |[],_::_,_,_,_,hp,_,_=>hp.elim
 |_::_,[],_,_,_,hp,_,_=>hp.elim
def A9(place:Nat→Option (Nat×Nat))(cells:List FE):List (Nat×List FE)→Option (List FE)
 |[]=>some cells
 |(i,cs)::rest =>
  match place i with
  |none=>none
  |some (off,size)=>bif Nat.beq cs.length size&&Nat.ble (off+cs.length) cells.length then A9 place (eP cells off cs) rest else none
def Ba(R:FE→Value→Prop)(cs:List FE)(us:List Value):Prop:=cs.length=us.length∧∀(j:Nat) c u,cs[j]? = some c→us[j]? = some u→R c u
def wR(R:FE→Value→Prop):List (Nat×List FE)→List (Nat×Value)→Prop
 |[],[]=>True
 |(i,cs)::r,(j,v)::s=>i=j∧Ba R cs v.cells.toList∧wR R r s
 |_,_=>False
theorem wS{R:FE→Value→Prop}(place:Nat→Option (Nat×Nat)):∀(ps:List (Nat×List FE)) (vs:List (Nat×Value)) (cells:List FE) (us:Array Value) (out:List FE),
  wR R ps vs→Ba R cells us.toList→A9 place cells ps=some out→∃arr,Instr.fill place us vs=some arr∧Ba R out arr.toList
 |[],[],cells,us,out,_,hc,h=>by
  injection h with h;subst h
  exact⟨us,rfl,hc⟩
 |(i,p)::r,(j,v)::s,cells,us,out,hp,hc,h=>by
  obtain⟨rfl,Wr,hr⟩:=hp;unfold A9 at h;cases Fe:place i with
  |none=>simp[Fe] at h
  |some os =>
   obtain⟨off,size⟩:=os;simp only[Fe] at h;cases hb:(Nat.beq p.length size&&Nat.ble (off+p.length) cells.length) with
   |false=>simp[hb] at h
   |true =>
    simp only[hb,cond_true] at h;simp only[Bool.and_eq_true,Nat.beq_eq,Nat.ble_eq] at hb;obtain⟨td,s7⟩:=hb;have hl:p.length=v.cells.size:=by simpa using Wr.1
    have rH:cells.length=us.size:=by simpa using hc.1
    obtain⟨f1,f2⟩:=yb off v.cells.toList 0 us;have NT:v.cells.zipIdx.foldl (fun cs (x:Value×Nat)=>cs.setIfInBounds (off+x.2) x.1) us=(v.cells.toList.zipIdx 0).foldl (fun cs (x:Value×Nat)=>cs.setIfInBounds (off+x.2) x.1) us:=by rw[←Array.foldl_toList,Array.toList_zipIdx]
    have D5:=wS place r s (eP cells off p) (v.cells.zipIdx.foldl (fun cs (x:Value×Nat)=>cs.setIfInBounds (off+x.2) x.1) us) out hr (by
     rw[NT];refine⟨by rw[vD _ _ _ s7];simpa[f1] using rH,fun j c u He hu => ?_⟩;rw[jN _ _ _ s7] at He;rw[ahh,f2 j] at hu;simp only[Nat.add_zero,Array.length_toList] at hu;by_cases hj:off≤j∧j<off+p.length
     ·rw[ag9 hj] at He;rw[ag9 (by omega)] at hu;exact Wr.2 _ c u He hu
     ·rw[ag7 hj] at He;rw[ag7 (by omega)] at hu;exact hc.2 j c u He (by simpa using hu)) h
    obtain⟨arr,ha,dI⟩:=D5;refine⟨arr,?_,dI⟩;unfold Instr.fill;simp only[Fe];rw[ag7 (by simp;omega)];exact ha
 |[],_::_,_,_,_,hp,_,_=>hp.elim
 |_::_,[],_,_,_,hp,_,_=>hp.elim
def eN(fs:List (Nat×Nat×Bool))(i:Nat):Option (Nat×Nat):=(fs[i]?).map fun f=>(f.1,f.2.1)
theorem tj{P:Program}(w:World):∀(ff:List Field),(∀f∈ff,(P.info? f.type).isSome=true) →
  (ff.mapM fun f=>(do pure (f.offset,←sizeOf f.type):Sem (Nat×Nat))).run P w = .ok (ff.map fun f=>(f.offset,P.cellsOf f.type)) w
 |[],_=>rfl
 |f::r,h=>by
  obtain⟨i,hi⟩:=agk.1 (h f (by simp));have hs:(sizeOf f.type).run P w = .ok (P.cellsOf f.type) w:=by simp[sizeOf,typeInfo,hi,Program.cellsOf]
  rw[ajN,agc,agc,hs,afR,agT,afR,agc,
   tj w r (fun f hf=>h f (by simp[hf]))]
  rfl
theorem yc{P:Program}{t:TypeId}{d:TD}{fs:List (Nat×Nat×Bool)}(hd:pJ P t d)(hk:d.kind = .struct fs)(w:World){I:Nat→Prop}{ps:List (Nat×PV)}{vs:Array (Nat×Value)}{out:List PV}
  (hp:Aw I w ps vs.toList) {zs:List PV} (Hf:∀us,bE I w d.zero us→bE I w zs us) (h:rQ (eN fs) zs ps=some out):∃v,(Instr.build t vs).run P w = .ok v w∧Rd I w (.agg out) v:=by
 obtain⟨u,hu,_,hf⟩:=hd.under;rw[hk] at hf;obtain⟨ff,rfl,Nt,Dw⟩:=hf;obtain⟨z,hz,_,_,QH⟩:=hd.qY w;have QH:=Hf _ (QH I w);have hm:(ff.mapM fun f=>(do pure (f.offset,←sizeOf f.type):Sem (Nat×Nat))).run P w = .ok (ff.map fun f=>(f.offset,P.cellsOf f.type)) w:=by
  have:=tj (P:=P) w ff.toList (fun f hf=>(Dw f (by simpa using hf)).1);rw[←ajz] at this;rw[Sem.run_map] at this;cases hx:(ff.mapM fun f=>(do pure (f.offset,←sizeOf f.type):Sem (Nat×Nat))).run P w with
  |halt e w'=>rw[hx] at this;cases this
  |ok x w' =>
   rw[hx] at this;simp only[Result.andThen_ok,Result.ok.injEq] at this;obtain⟨h1,rfl⟩:=this
   congr 1
   apply aiU;simpa using h1
 have Jk:((ff.map fun f=>(f.offset,P.cellsOf f.type))[·]?)=eN fs:=by funext i;unfold eN;rw[←Nt];simp[List.getElem?_map,Array.getElem?_map];cases ff[i]? <;> rfl
 obtain⟨arr,ha,hr⟩:=vE (eN fs) ps vs.toList zs z.cells out hp QH h;refine⟨.agg arr,?_,hr.agg⟩;have Ff:(fun x=>(ff.map fun f=>(f.offset,P.cellsOf f.type))[x]?)=eN fs:=Jk;simp only[Instr.build,Sem.run_bind,hz,Result.andThen_ok,run_underlying hu,hm];rw[Ff,ha];rfl
theorem wT{P:Program}{t:TypeId}{d:TD}{fs:List (Nat×Nat×Bool)}(hd:pJ P t d)(hk:d.kind = .struct fs)(w:World){I:Nat→Prop}{R:FE→Value→Prop}(hR:∀c u,c.one=true→Rd I w c u→R (.pv c) u){ps:List (Nat×List FE)}{vs:Array (Nat×Value)}{out:List FE}
  (hp:wR R ps vs.toList) {zs:List PV} (Hf:∀us,bE I w d.zero us→bE I w zs us) (h:A9 (eN fs) (zs.map FE.pv) ps=some out):∃arr,(Instr.build t vs).run P w = .ok (.agg arr) w∧Ba R out arr.toList:=by
 obtain⟨u,hu,_,hf⟩:=hd.under;rw[hk] at hf;obtain⟨ff,rfl,Nt,Dw⟩:=hf;obtain⟨z,hz,_,_,QH⟩:=hd.qY w;have QH:=Hf _ (QH I w);have hm:(ff.mapM fun f=>(do pure (f.offset,←sizeOf f.type):Sem (Nat×Nat))).run P w = .ok (ff.map fun f=>(f.offset,P.cellsOf f.type)) w:=by
  have:=tj (P:=P) w ff.toList (fun f hf=>(Dw f (by simpa using hf)).1);rw[←ajz] at this;rw[Sem.run_map] at this;cases hx:(ff.mapM fun f=>(do pure (f.offset,←sizeOf f.type):Sem (Nat×Nat))).run P w with
  |halt e w'=>rw[hx] at this;cases this
  |ok x w' =>
   rw[hx] at this;simp only[Result.andThen_ok,Result.ok.injEq] at this;obtain⟨h1,rfl⟩:=this
   congr 1
   apply aiU;simpa using h1
 have Jk:((ff.map fun f=>(f.offset,P.cellsOf f.type))[·]?)=eN fs:=by funext i;unfold eN;rw[←Nt];simp[List.getElem?_map,Array.getElem?_map];cases ff[i]? <;> rfl
 have hzf:Ba R (zs.map FE.pv) z.cells.toList:=by refine⟨by simpa using QH.1,fun j c u hc hu => ?_⟩;rw[afT,ahq] at hc;obtain⟨p,hp,rfl⟩:=hc;obtain⟨h1,h2⟩:=QH.2 j p u hp hu;exact hR p u h1 h2
 obtain⟨arr,ha,hr⟩:=wS (eN fs) ps vs.toList _ z.cells out hp hzf h;refine⟨arr,?_,hr⟩;have Ff:(fun x=>(ff.map fun f=>(f.offset,P.cellsOf f.type))[x]?)=eN fs:=Jk;simp only[Instr.build,Sem.run_bind,hz,Result.andThen_ok,run_underlying hu,hm];rw[Ff,ha];rfl
end Go.Proofs.YtcpnocgollpbhaaGreatDoor.Sym
