/- Lemmas for the statements of this seat. -/
import Derived.Test.YtfjfekodeplcoaaGreatWSymB
namespace Go.Proofs.YtfjfekodeplcoaaGreat.Sym
open Go Go.RowKit
theorem sm(off:Nat):∀(l:List Value) (k:Nat) (cells:Array Value),
  ((l.zipIdx k).foldl (fun cs (x:Value×Nat)=>cs.setIfInBounds (off+x.2) x.1) cells).size=cells.size ∧
  ∀j,((l.zipIdx k).foldl (fun cs (x:Value×Nat)=>cs.setIfInBounds (off+x.2) x.1) cells)[j]? =
   if off+k≤j∧j<off+k+l.length∧j<cells.size then l[j-(off+k)]? else cells[j]?
 |[],k,cells=>by
  refine⟨rfl,fun j => ?_⟩
  simp
  omega
 |v::l,k,cells=>by
  obtain⟨h1,h2⟩:=sm off l (k+1) (cells.setIfInBounds (off+k) v)
  refine⟨by simpa using h1,fun j => ?_⟩
  simp only[List.zipIdx_cons,List.foldl_cons,h2 j,Array.size_setIfInBounds,List.length_cons]
  by_cases hj:j<cells.size
  ·by_cases h3:j=off+k
   ·subst h3
    rw[if_neg (by omega),if_pos (by omega)]
    simp[hj]
   ·by_cases h4:off+(k+1)≤j∧j<off+(k+1)+l.length∧j<cells.size
    ·rw[if_pos h4,if_pos (by omega)]
     rw[show j-(off+k)=(j-(off+(k+1)))+1 from by omega,List.getElem?_cons_succ]
    ·rw[if_neg h4,if_neg (by omega),Array.getElem?_setIfInBounds_ne (by omega)]
  ·rw[if_neg (by omega),if_neg (by omega),Array.getElem?_eq_none (by simp;omega),Array.getElem?_eq_none (by omega)]
def cF{α:Type}(cells:List α)(off:Nat)(new:List α):List α:=cells.take off++(new++cells.drop (off+new.length))
theorem dI{α:Type}(cells:List α)(off:Nat)(new:List α)(h:off+new.length≤cells.length)(j:Nat) :
  (cF cells off new)[j]? = if off≤j∧j<off+new.length then new[j-off]? else cells[j]? := by
 unfold cF
 rw[List.getElem?_append]
 simp only[List.length_take,Nat.min_eq_left (show off≤cells.length by omega)]
 by_cases h1:j<off
 ·rw[if_pos h1,if_neg (by omega),List.getElem?_take,if_pos h1]
 ·rw[if_neg h1,List.getElem?_append]
  by_cases h2:j<off+new.length
  ·rw[if_pos (by omega),if_pos (by omega)]
  ·rw[if_neg (by omega),if_neg (by omega),List.getElem?_drop]
   congr 1
   omega
theorem qf{α:Type}(cells:List α)(off:Nat)(new:List α)(h:off+new.length≤cells.length):(cF cells off new).length=cells.length:=by
 unfold cF;simp;omega
def qg(place:Nat→Option (Nat×Nat))(cells:List PV):List (Nat×PV)→Option (List PV)
 |[]=>some cells
 |(i,p)::rest =>
  match place i with
  |none=>none
  |some (off,size)=>bif Nat.beq p.cells.length size&&Nat.ble (off+p.cells.length) cells.length && !p.pD then qg place (cF cells off p.cells) rest else none
def xV(I:Nat→Prop)(w:World):List (Nat×PV)→List (Nat×Value)→Prop
 |[],[]=>True
 |(i,p)::r,(j,v)::s=>i=j∧Rd I w p v∧xV I w r s
 |_,_=>False
theorem tB{I:Nat→Prop}{w:World}(place:Nat→Option (Nat×Nat)):∀(ps:List (Nat×PV)) (vs:List (Nat×Value)) (cells:List PV) (us:Array Value) (out:List PV),
  xV I w ps vs→bT I w cells us.toList→qg place cells ps=some out→∃arr,Instr.fill place us vs=some arr∧bT I w out arr.toList
 |[],[],cells,us,out,_,hc,h=>by
  injection h with h;subst h
  exact⟨us,rfl,hc⟩
 |(i,p)::r,(j,v)::s,cells,us,out,hp,hc,h=>by
  obtain⟨rfl,hv,hr⟩:=hp
  unfold qg at h
  cases Et:place i with
  |none=>simp[Et] at h
  |some os =>
   obtain⟨off,size⟩:=os
   simp only[Et] at h
   cases hb:(Nat.beq p.cells.length size&&Nat.ble (off+p.cells.length) cells.length && !p.pD) with
   |false=>simp[hb] at h
   |true =>
    simp only[hb,cond_true] at h
    simp only[Bool.and_eq_true,Nat.beq_eq,Nat.ble_eq,Bool.not_eq_true'] at hb
    obtain⟨⟨ux,nh⟩,OQ⟩:=hb
    have OR:=hv.cells (fun vs e=>by subst e;simp[PV.pD] at OQ)
    have hl:p.cells.length=v.cells.size:=by simpa using OR.1
    have jb:cells.length=us.size:=by simpa using hc.1
    obtain⟨f1,f2⟩:=sm off v.cells.toList 0 us
    have CP:v.cells.zipIdx.foldl (fun cs (x:Value×Nat)=>cs.setIfInBounds (off+x.2) x.1) us=(v.cells.toList.zipIdx 0).foldl (fun cs (x:Value×Nat)=>cs.setIfInBounds (off+x.2) x.1) us:=by
     rw[←Array.foldl_toList,Array.toList_zipIdx]
    have AY:=tB place r s (cF cells off p.cells) (v.cells.zipIdx.foldl (fun cs (x:Value×Nat)=>cs.setIfInBounds (off+x.2) x.1) us) out hr (by
     rw[CP]
     refine⟨by rw[qf _ _ _ nh];simpa[f1] using jb,fun j c u GC hu => ?_⟩
     rw[dI _ _ _ nh] at GC
     rw[Array.getElem?_toList,f2 j] at hu
     simp only[Nat.add_zero,Array.length_toList] at hu
     by_cases hj:off≤j∧j<off+p.cells.length
     ·rw[if_pos hj] at GC
      rw[if_pos (by omega)] at hu
      exact OR.2 _ c u GC hu
     ·rw[if_neg hj] at GC
      rw[if_neg (by omega)] at hu
      exact hc.2 j c u GC (by simpa using hu)) h
    obtain⟨arr,ha,dy⟩:=AY
    refine⟨arr,?_,dy⟩
    unfold Instr.fill
    simp only[Et]
    rw[if_neg (by simp;omega)]
    exact ha
 |[],_::_,_,_,_,hp,_,_=>hp.elim
 |_::_,[],_,_,_,hp,_,_=>hp.elim
def yr(place:Nat→Option (Nat×Nat))(cells:List FE):List (Nat×List FE)→Option (List FE)
 |[]=>some cells
 |(i,cs)::rest =>
  match place i with
  |none=>none
  |some (off,size)=>bif Nat.beq cs.length size&&Nat.ble (off+cs.length) cells.length then yr place (cF cells off cs) rest else none
def yu(R:FE→Value→Prop)(cs:List FE)(us:List Value):Prop:=cs.length=us.length∧∀(j:Nat) c u,cs[j]? = some c→us[j]? = some u→R c u
def uy(R:FE→Value→Prop):List (Nat×List FE)→List (Nat×Value)→Prop
 |[],[]=>True
 |(i,cs)::r,(j,v)::s=>i=j∧yu R cs v.cells.toList∧uy R r s
 |_,_=>False
theorem uz{R:FE→Value→Prop}(place:Nat→Option (Nat×Nat)):∀(ps:List (Nat×List FE)) (vs:List (Nat×Value)) (cells:List FE) (us:Array Value) (out:List FE),
  uy R ps vs→yu R cells us.toList→yr place cells ps=some out→∃arr,Instr.fill place us vs=some arr∧yu R out arr.toList
 |[],[],cells,us,out,_,hc,h=>by
  injection h with h;subst h
  exact⟨us,rfl,hc⟩
 |(i,p)::r,(j,v)::s,cells,us,out,hp,hc,h=>by
  obtain⟨rfl,OR,hr⟩:=hp
  unfold yr at h
  cases Et:place i with
  |none=>simp[Et] at h
  |some os =>
   obtain⟨off,size⟩:=os
   simp only[Et] at h
   cases hb:(Nat.beq p.length size&&Nat.ble (off+p.length) cells.length) with
   |false=>simp[hb] at h
   |true =>
    simp only[hb,cond_true] at h
    simp only[Bool.and_eq_true,Nat.beq_eq,Nat.ble_eq] at hb
    obtain⟨ux,nh⟩:=hb
    have hl:p.length=v.cells.size:=by simpa using OR.1
    have jb:cells.length=us.size:=by simpa using hc.1
    obtain⟨f1,f2⟩:=sm off v.cells.toList 0 us
    have CP:v.cells.zipIdx.foldl (fun cs (x:Value×Nat)=>cs.setIfInBounds (off+x.2) x.1) us=(v.cells.toList.zipIdx 0).foldl (fun cs (x:Value×Nat)=>cs.setIfInBounds (off+x.2) x.1) us:=by
     rw[←Array.foldl_toList,Array.toList_zipIdx]
    have AY:=uz place r s (cF cells off p) (v.cells.zipIdx.foldl (fun cs (x:Value×Nat)=>cs.setIfInBounds (off+x.2) x.1) us) out hr (by
     rw[CP]
     refine⟨by rw[qf _ _ _ nh];simpa[f1] using jb,fun j c u GC hu => ?_⟩
     rw[dI _ _ _ nh] at GC
     rw[Array.getElem?_toList,f2 j] at hu
     simp only[Nat.add_zero,Array.length_toList] at hu
     by_cases hj:off≤j∧j<off+p.length
     ·rw[if_pos hj] at GC
      rw[if_pos (by omega)] at hu
      exact OR.2 _ c u GC hu
     ·rw[if_neg hj] at GC
      rw[if_neg (by omega)] at hu
      exact hc.2 j c u GC (by simpa using hu)) h
    obtain⟨arr,ha,dy⟩:=AY
    refine⟨arr,?_,dy⟩
    unfold Instr.fill
    simp only[Et]
    rw[if_neg (by simp;omega)]
    exact ha
 |[],_::_,_,_,_,hp,_,_=>hp.elim
 |_::_,[],_,_,_,hp,_,_=>hp.elim
def ep(fs:List (Nat×Nat×Bool))(i:Nat):Option (Nat×Nat):=(fs[i]?).map fun f=>(f.1,f.2.1)
theorem rD{P:Program}(w:World):∀(ff:List Field),(∀f∈ff,(P.info? f.type).isSome=true) →
  (ff.mapM fun f=>(do pure (f.offset,←sizeOf f.type):Sem (Nat×Nat))).run P w = .ok (ff.map fun f=>(f.offset,P.cellsOf f.type)) w
 |[],_=>rfl
 |f::r,h=>by
  obtain⟨i,hi⟩:=Option.isSome_iff_exists.1 (h f (by simp))
  have hs:(sizeOf f.type).run P w = .ok (P.cellsOf f.type) w:=by simp[sizeOf,typeInfo,hi,Program.cellsOf]
  rw[List.mapM_cons,Sem.run_bind,Sem.run_bind,hs,Result.andThen_ok,Sem.run_pure,Result.andThen_ok,Sem.run_bind,
   rD w r (fun f hf=>h f (by simp[hf]))]
  rfl
theorem vF{P:Program}{t:TypeId}{d:TD}{fs:List (Nat×Nat×Bool)}(hd:ov P t d)(hk:d.kind = .struct fs)(w:World){I:Nat→Prop}{ps:List (Nat×PV)}{vs:Array (Nat×Value)}{out:List PV}
  (hp:xV I w ps vs.toList) {zs:List PV} (ta:∀us,bT I w d.zero us→bT I w zs us) (h:qg (ep fs) zs ps=some out):∃v,(Instr.build t vs).run P w = .ok v w∧Rd I w (.agg out) v:=by
 obtain⟨u,hu,_,hf⟩:=hd.under
 rw[hk] at hf
 obtain⟨ff,rfl,J7,Eu⟩:=hf
 obtain⟨z,hz,_,_,J8⟩:=hd.mg w
 have J8:=ta _ (J8 I w)
 have hm:(ff.mapM fun f=>(do pure (f.offset,←sizeOf f.type):Sem (Nat×Nat))).run P w = .ok (ff.map fun f=>(f.offset,P.cellsOf f.type)) w:=by
  have:=rD (P:=P) w ff.toList (fun f hf=>(Eu f (by simpa using hf)).1)
  rw[←Array.toList_mapM] at this
  rw[Sem.run_map] at this
  cases hx:(ff.mapM fun f=>(do pure (f.offset,←sizeOf f.type):Sem (Nat×Nat))).run P w with
  |halt e w'=>rw[hx] at this;cases this
  |ok x w' =>
   rw[hx] at this
   simp only[Result.andThen_ok,Result.ok.injEq] at this
   obtain⟨h1,rfl⟩:=this
   congr 1
   apply Array.ext'
   simpa using h1
 have Ev:((ff.map fun f=>(f.offset,P.cellsOf f.type))[·]?)=ep fs:=by
  funext i
  unfold ep
  rw[←J7]
  simp[List.getElem?_map,Array.getElem?_map]
  cases ff[i]? <;> rfl
 obtain⟨arr,ha,hr⟩:=tB (ep fs) ps vs.toList zs z.cells out hp J8 h
 refine⟨.agg arr,?_,hr.agg⟩
 have BC:(fun x=>(ff.map fun f=>(f.offset,P.cellsOf f.type))[x]?)=ep fs:=Ev
 simp only[Instr.build,Sem.run_bind,hz,Result.andThen_ok,run_underlying hu,hm]
 rw[BC,ha]
 rfl
theorem uA{P:Program}{t:TypeId}{d:TD}{fs:List (Nat×Nat×Bool)}(hd:ov P t d)(hk:d.kind = .struct fs)(w:World){I:Nat→Prop}{R:FE→Value→Prop}(hR:∀c u,c.one=true→Rd I w c u→R (.pv c) u){ps:List (Nat×List FE)}{vs:Array (Nat×Value)}{out:List FE}
  (hp:uy R ps vs.toList) {zs:List PV} (ta:∀us,bT I w d.zero us→bT I w zs us) (h:yr (ep fs) (zs.map FE.pv) ps=some out):∃arr,(Instr.build t vs).run P w = .ok (.agg arr) w∧yu R out arr.toList:=by
 obtain⟨u,hu,_,hf⟩:=hd.under
 rw[hk] at hf
 obtain⟨ff,rfl,J7,Eu⟩:=hf
 obtain⟨z,hz,_,_,J8⟩:=hd.mg w
 have J8:=ta _ (J8 I w)
 have hm:(ff.mapM fun f=>(do pure (f.offset,←sizeOf f.type):Sem (Nat×Nat))).run P w = .ok (ff.map fun f=>(f.offset,P.cellsOf f.type)) w:=by
  have:=rD (P:=P) w ff.toList (fun f hf=>(Eu f (by simpa using hf)).1)
  rw[←Array.toList_mapM] at this
  rw[Sem.run_map] at this
  cases hx:(ff.mapM fun f=>(do pure (f.offset,←sizeOf f.type):Sem (Nat×Nat))).run P w with
  |halt e w'=>rw[hx] at this;cases this
  |ok x w' =>
   rw[hx] at this
   simp only[Result.andThen_ok,Result.ok.injEq] at this
   obtain⟨h1,rfl⟩:=this
   congr 1
   apply Array.ext'
   simpa using h1
 have Ev:((ff.map fun f=>(f.offset,P.cellsOf f.type))[·]?)=ep fs:=by
  funext i
  unfold ep
  rw[←J7]
  simp[List.getElem?_map,Array.getElem?_map]
  cases ff[i]? <;> rfl
 have UP:yu R (zs.map FE.pv) z.cells.toList:=by
  refine⟨by simpa using J8.1,fun j c u hc hu => ?_⟩
  rw[List.getElem?_map,Option.map_eq_some_iff] at hc
  obtain⟨p,hp,rfl⟩:=hc
  obtain⟨h1,h2⟩:=J8.2 j p u hp hu
  exact hR p u h1 h2
 obtain⟨arr,ha,hr⟩:=uz (ep fs) ps vs.toList _ z.cells out hp UP h
 refine⟨arr,?_,hr⟩
 have BC:(fun x=>(ff.map fun f=>(f.offset,P.cellsOf f.type))[x]?)=ep fs:=Ev
 simp only[Instr.build,Sem.run_bind,hz,Result.andThen_ok,run_underlying hu,hm]
 rw[BC,ha]
 rfl
end Go.Proofs.YtfjfekodeplcoaaGreat.Sym
