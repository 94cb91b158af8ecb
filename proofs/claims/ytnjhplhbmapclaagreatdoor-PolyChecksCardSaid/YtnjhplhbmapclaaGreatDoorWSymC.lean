/- Lemmas for the statements of this seat. -/
import Derived.Test.YtnjhplhbmapclaaGreatDoorWSymB
namespace Go.Proofs.YtnjhplhbmapclaaGreatDoor.Sym
open Go Go.RowKit
theorem qq(off:Nat):∀(l:List Value) (k:Nat) (cells:Array Value),
  ((l.zipIdx k).foldl (fun cs (x:Value×Nat)=>cs.setIfInBounds (off+x.2) x.1) cells).size=cells.size ∧
  ∀j,((l.zipIdx k).foldl (fun cs (x:Value×Nat)=>cs.setIfInBounds (off+x.2) x.1) cells)[j]? =
   if off+k≤j∧j<off+k+l.length∧j<cells.size then l[j-(off+k)]? else cells[j]?
 |[],k,cells=>by
  refine⟨rfl,fun j => ?_⟩
  simp
  omega
 |v::l,k,cells=>by
  obtain⟨h1,h2⟩:=qq off l (k+1) (cells.setIfInBounds (off+k) v)
  refine⟨by simpa using h1,fun j => ?_⟩
  simp only[List.zipIdx_cons,List.foldl_cons,h2 j,Array.size_setIfInBounds,List.length_cons]
  by_cases hj:j<cells.size
  ·by_cases h3:j=off+k
   ·subst h3
    rw[if_neg (by omega),if_pos (by omega)]
    simp[hj]
   ·by_cases h4:off+(k+1)≤j∧j<off+(k+1)+l.length∧j<cells.size
    ·rw[if_pos h4,if_pos (by omega)]
     rw[show j-(off+k)=(j-(off+(k+1)))+1 from by omega,List.getElem?_cons_succ]
    ·rw[if_neg h4,if_neg (by omega),Array.getElem?_setIfInBounds_ne (by omega)]
  ·rw[if_neg (by omega),if_neg (by omega),Array.getElem?_eq_none (by simp;omega),Array.getElem?_eq_none (by omega)]
def cR{α:Type}(cells:List α)(off:Nat)(new:List α):List α:=cells.take off++(new++cells.drop (off+new.length))
theorem e7{α:Type}(cells:List α)(off:Nat)(new:List α)(h:off+new.length≤cells.length)(j:Nat) :
  (cR cells off new)[j]? = if off≤j∧j<off+new.length then new[j-off]? else cells[j]? := by
 unfold cR
 rw[List.getElem?_append]
 simp only[List.length_take,Nat.min_eq_left (show off≤cells.length by omega)]
 by_cases h1:j<off
 ·rw[if_pos h1,if_neg (by omega),List.getElem?_take,if_pos h1]
 ·rw[if_neg h1,List.getElem?_append]
  by_cases h2:j<off+new.length
  ·rw[if_pos (by omega),if_pos (by omega)]
  ·rw[if_neg (by omega),if_neg (by omega),List.getElem?_drop]
   congr 1
   omega
theorem ou{α:Type}(cells:List α)(off:Nat)(new:List α)(h:off+new.length≤cells.length):(cR cells off new).length=cells.length:=by
 unfold cR;simp;omega
def lK(place:Nat→Option (Nat×Nat))(cells:List PV):List (Nat×PV)→Option (List PV)
 |[]=>some cells
 |(i,p)::rest =>
  match place i with
  |none=>none
  |some (off,size)=>bif Nat.beq p.cells.length size&&Nat.ble (off+p.cells.length) cells.length && !p.mI then lK place (cR cells off p.cells) rest else none
def sl(I:Nat→Prop)(w:World):List (Nat×PV)→List (Nat×Value)→Prop
 |[],[]=>True
 |(i,p)::r,(j,v)::s=>i=j∧Rd I w p v∧sl I w r s
 |_,_=>False
theorem ov{I:Nat→Prop}{w:World}(place:Nat→Option (Nat×Nat)):∀(ps:List (Nat×PV)) (vs:List (Nat×Value)) (cells:List PV) (us:Array Value) (out:List PV),
  sl I w ps vs→aV I w cells us.toList→lK place cells ps=some out→∃arr,Instr.fill place us vs=some arr∧aV I w out arr.toList
 |[],[],cells,us,out,_,hc,h=>by
  injection h with h;subst h
  exact⟨us,rfl,hc⟩
 |(i,p)::r,(j,v)::s,cells,us,out,hp,hc,h=>by
  obtain⟨rfl,hv,hr⟩:=hp
  unfold lK at h
  cases B3:place i with
  |none=>simp[B3] at h
  |some os =>
   obtain⟨off,size⟩:=os
   simp only[B3] at h
   cases hb:(Nat.beq p.cells.length size&&Nat.ble (off+p.cells.length) cells.length && !p.mI) with
   |false=>simp[hb] at h
   |true =>
    simp only[hb,cond_true] at h
    simp only[Bool.and_eq_true,Nat.beq_eq,Nat.ble_eq,Bool.not_eq_true'] at hb
    obtain⟨⟨so,mJ⟩,Nt⟩:=hb
    have IF:=hv.cells (fun vs e=>by subst e;simp[PV.mI] at Nt)
    have hl:p.cells.length=v.cells.size:=by simpa using IF.1
    have lF:cells.length=us.size:=by simpa using hc.1
    obtain⟨f1,f2⟩:=qq off v.cells.toList 0 us
    have Cu:v.cells.zipIdx.foldl (fun cs (x:Value×Nat)=>cs.setIfInBounds (off+x.2) x.1) us=(v.cells.toList.zipIdx 0).foldl (fun cs (x:Value×Nat)=>cs.setIfInBounds (off+x.2) x.1) us:=by
     rw[←Array.foldl_toList,Array.toList_zipIdx]
    have va:=ov place r s (cR cells off p.cells) (v.cells.zipIdx.foldl (fun cs (x:Value×Nat)=>cs.setIfInBounds (off+x.2) x.1) us) out hr (by
     rw[Cu]
     refine⟨by rw[ou _ _ _ mJ];simpa[f1] using lF,fun j c u Cv hu => ?_⟩
     rw[e7 _ _ _ mJ] at Cv
     rw[Array.getElem?_toList,f2 j] at hu
     simp only[Nat.add_zero,Array.length_toList] at hu
     by_cases hj:off≤j∧j<off+p.cells.length
     ·rw[if_pos hj] at Cv
      rw[if_pos (by omega)] at hu
      exact IF.2 _ c u Cv hu
     ·rw[if_neg hj] at Cv
      rw[if_neg (by omega)] at hu
      exact hc.2 j c u Cv (by simpa using hu)) h
    obtain⟨arr,ha,bU⟩:=va
    refine⟨arr,?_,bU⟩
    unfold Instr.fill
    simp only[B3]
    rw[if_neg (by simp;omega)]
    exact ha
 |[],_::_,_,_,_,hp,_,_=>hp.elim
 |_::_,[],_,_,_,hp,_,_=>hp.elim
def sN(place:Nat→Option (Nat×Nat))(cells:List FE):List (Nat×List FE)→Option (List FE)
 |[]=>some cells
 |(i,cs)::rest =>
  match place i with
  |none=>none
  |some (off,size)=>bif Nat.beq cs.length size&&Nat.ble (off+cs.length) cells.length then sN place (cR cells off cs) rest else none
def sO(R:FE→Value→Prop)(cs:List FE)(us:List Value):Prop:=cs.length=us.length∧∀(j:Nat) c u,cs[j]? = some c→us[j]? = some u→R c u
def o9(R:FE→Value→Prop):List (Nat×List FE)→List (Nat×Value)→Prop
 |[],[]=>True
 |(i,cs)::r,(j,v)::s=>i=j∧sO R cs v.cells.toList∧o9 R r s
 |_,_=>False
theorem pc{R:FE→Value→Prop}(place:Nat→Option (Nat×Nat)):∀(ps:List (Nat×List FE)) (vs:List (Nat×Value)) (cells:List FE) (us:Array Value) (out:List FE),
  o9 R ps vs→sO R cells us.toList→sN place cells ps=some out→∃arr,Instr.fill place us vs=some arr∧sO R out arr.toList
 |[],[],cells,us,out,_,hc,h=>by
  injection h with h;subst h
  exact⟨us,rfl,hc⟩
 |(i,p)::r,(j,v)::s,cells,us,out,hp,hc,h=>by
  obtain⟨rfl,IF,hr⟩:=hp
  unfold sN at h
  cases B3:place i with
  |none=>simp[B3] at h
  |some os =>
   obtain⟨off,size⟩:=os
   simp only[B3] at h
   cases hb:(Nat.beq p.length size&&Nat.ble (off+p.length) cells.length) with
   |false=>simp[hb] at h
   |true =>
    simp only[hb,cond_true] at h
    simp only[Bool.and_eq_true,Nat.beq_eq,Nat.ble_eq] at hb
    obtain⟨so,mJ⟩:=hb
    have hl:p.length=v.cells.size:=by simpa using IF.1
    have lF:cells.length=us.size:=by simpa using hc.1
    obtain⟨f1,f2⟩:=qq off v.cells.toList 0 us
    have Cu:v.cells.zipIdx.foldl (fun cs (x:Value×Nat)=>cs.setIfInBounds (off+x.2) x.1) us=(v.cells.toList.zipIdx 0).foldl (fun cs (x:Value×Nat)=>cs.setIfInBounds (off+x.2) x.1) us:=by
     rw[←Array.foldl_toList,Array.toList_zipIdx]
    have va:=pc place r s (cR cells off p) (v.cells.zipIdx.foldl (fun cs (x:Value×Nat)=>cs.setIfInBounds (off+x.2) x.1) us) out hr (by
     rw[Cu]
     refine⟨by rw[ou _ _ _ mJ];simpa[f1] using lF,fun j c u Cv hu => ?_⟩
     rw[e7 _ _ _ mJ] at Cv
     rw[Array.getElem?_toList,f2 j] at hu
     simp only[Nat.add_zero,Array.length_toList] at hu
     by_cases hj:off≤j∧j<off+p.length
     ·rw[if_pos hj] at Cv
      rw[if_pos (by omega)] at hu
      exact IF.2 _ c u Cv hu
     ·rw[if_neg hj] at Cv
      rw[if_neg (by omega)] at hu
      exact hc.2 j c u Cv (by simpa using hu)) h
    obtain⟨arr,ha,bU⟩:=va
    refine⟨arr,?_,bU⟩
    unfold Instr.fill
    simp only[B3]
    rw[if_neg (by simp;omega)]
    exact ha
 |[],_::_,_,_,_,hp,_,_=>hp.elim
 |_::_,[],_,_,_,hp,_,_=>hp.elim
def cy(fs:List (Nat×Nat×Bool))(i:Nat):Option (Nat×Nat):=(fs[i]?).map fun f=>(f.1,f.2.1)
theorem mK{P:Program}(w:World):∀(ff:List Field),(∀f∈ff,(P.info? f.type).isSome=true) →
  (ff.mapM fun f=>(do pure (f.offset,←sizeOf f.type):Sem (Nat×Nat))).run P w = .ok (ff.map fun f=>(f.offset,P.cellsOf f.type)) w
 |[],_=>rfl
 |f::r,h=>by
  obtain⟨i,hi⟩:=Option.isSome_iff_exists.1 (h f (by simp))
  have hs:(sizeOf f.type).run P w = .ok (P.cellsOf f.type) w:=by simp[sizeOf,typeInfo,hi,Program.cellsOf]
  rw[List.mapM_cons,Sem.run_bind,Sem.run_bind,hs,Result.andThen_ok,Sem.run_pure,Result.andThen_ok,Sem.run_bind,
   mK w r (fun f hf=>h f (by simp[hf]))]
  rfl
theorem qt{P:Program}{t:TypeId}{d:TD}{fs:List (Nat×Nat×Bool)}(hd:ko P t d)(hk:d.kind = .struct fs)(w:World){I:Nat→Prop}{ps:List (Nat×PV)}{vs:Array (Nat×Value)}{out:List PV}
  (hp:sl I w ps vs.toList) {zs:List PV} (xh:∀us,aV I w d.zero us→aV I w zs us) (h:lK (cy fs) zs ps=some out):∃v,(Instr.build t vs).run P w = .ok v w∧Rd I w (.agg out) v:=by
 obtain⟨u,hu,_,hf⟩:=hd.under
 rw[hk] at hf
 obtain⟨ff,rfl,Em,sP⟩:=hf
 obtain⟨z,hz,_,_,En⟩:=hd.lf w
 have En:=xh _ (En I w)
 have hm:(ff.mapM fun f=>(do pure (f.offset,←sizeOf f.type):Sem (Nat×Nat))).run P w = .ok (ff.map fun f=>(f.offset,P.cellsOf f.type)) w:=by
  have:=mK (P:=P) w ff.toList (fun f hf=>(sP f (by simpa using hf)).1)
  rw[←Array.toList_mapM] at this
  rw[Sem.run_map] at this
  cases hx:(ff.mapM fun f=>(do pure (f.offset,←sizeOf f.type):Sem (Nat×Nat))).run P w with
  |halt e w'=>rw[hx] at this;cases this
  |ok x w' =>
   rw[hx] at this
   simp only[Result.andThen_ok,Result.ok.injEq] at this
   obtain⟨h1,rfl⟩:=this
   congr 1
   apply Array.ext'
   simpa using h1
 have yN:((ff.map fun f=>(f.offset,P.cellsOf f.type))[·]?)=cy fs:=by
  funext i
  unfold cy
  rw[←Em]
  simp[List.getElem?_map,Array.getElem?_map]
  cases ff[i]? <;> rfl
 obtain⟨arr,ha,hr⟩:=ov (cy fs) ps vs.toList zs z.cells out hp En h
 refine⟨.agg arr,?_,hr.agg⟩
 have vS:(fun x=>(ff.map fun f=>(f.offset,P.cellsOf f.type))[x]?)=cy fs:=yN
 simp only[Instr.build,Sem.run_bind,hz,Result.andThen_ok,run_underlying hu,hm]
 rw[vS,ha]
 rfl
theorem pd{P:Program}{t:TypeId}{d:TD}{fs:List (Nat×Nat×Bool)}(hd:ko P t d)(hk:d.kind = .struct fs)(w:World){I:Nat→Prop}{R:FE→Value→Prop}(hR:∀c u,c.one=true→Rd I w c u→R (.pv c) u){ps:List (Nat×List FE)}{vs:Array (Nat×Value)}{out:List FE}
  (hp:o9 R ps vs.toList) {zs:List PV} (xh:∀us,aV I w d.zero us→aV I w zs us) (h:sN (cy fs) (zs.map FE.pv) ps=some out):∃arr,(Instr.build t vs).run P w = .ok (.agg arr) w∧sO R out arr.toList:=by
 obtain⟨u,hu,_,hf⟩:=hd.under
 rw[hk] at hf
 obtain⟨ff,rfl,Em,sP⟩:=hf
 obtain⟨z,hz,_,_,En⟩:=hd.lf w
 have En:=xh _ (En I w)
 have hm:(ff.mapM fun f=>(do pure (f.offset,←sizeOf f.type):Sem (Nat×Nat))).run P w = .ok (ff.map fun f=>(f.offset,P.cellsOf f.type)) w:=by
  have:=mK (P:=P) w ff.toList (fun f hf=>(sP f (by simpa using hf)).1)
  rw[←Array.toList_mapM] at this
  rw[Sem.run_map] at this
  cases hx:(ff.mapM fun f=>(do pure (f.offset,←sizeOf f.type):Sem (Nat×Nat))).run P w with
  |halt e w'=>rw[hx] at this;cases this
  |ok x w' =>
   rw[hx] at this
   simp only[Result.andThen_ok,Result.ok.injEq] at this
   obtain⟨h1,rfl⟩:=this
   congr 1
   apply Array.ext'
   simpa using h1
 have yN:((ff.map fun f=>(f.offset,P.cellsOf f.type))[·]?)=cy fs:=by
  funext i
  unfold cy
  rw[←Em]
  simp[List.getElem?_map,Array.getElem?_map]
  cases ff[i]? <;> rfl
 have Nu:sO R (zs.map FE.pv) z.cells.toList:=by
  refine⟨by simpa using En.1,fun j c u hc hu => ?_⟩
  rw[List.getElem?_map,Option.map_eq_some_iff] at hc
  obtain⟨p,hp,rfl⟩:=hc
  obtain⟨h1,h2⟩:=En.2 j p u hp hu
  exact hR p u h1 h2
 obtain⟨arr,ha,hr⟩:=pc (cy fs) ps vs.toList _ z.cells out hp Nu h
 refine⟨arr,?_,hr⟩
 have vS:(fun x=>(ff.map fun f=>(f.offset,P.cellsOf f.type))[x]?)=cy fs:=yN
 simp only[Instr.build,Sem.run_bind,hz,Result.andThen_ok,run_underlying hu,hm]
 rw[vS,ha]
 rfl
end Go.Proofs.YtnjhplhbmapclaaGreatDoor.Sym
