/- Lemmas for the statements of this seat. -/
import Derived.Test.YtllmkadmohkbfaaGreatDoorVSymB
namespace Go.Proofs.YtllmkadmohkbfaaGreatDoor.Sym
open Go Go.RowKit
theorem C1(off:Nat):∀(l:List Value) (k:Nat) (cells:Array Value),
  ((l.zipIdx k).foldl (fun cs (x:Value×Nat)=>cs.setIfInBounds (off+x.2) x.1) cells).size=cells.size ∧
  ∀j,((l.zipIdx k).foldl (fun cs (x:Value×Nat)=>cs.setIfInBounds (off+x.2) x.1) cells)[j]? =
   if off+k≤j∧j<off+k+l.length∧j<cells.size then l[j-(off+k)]? else cells[j]?
 |[],k,cells=>by
  refine⟨rfl,fun j => ?_⟩
  simp
  omega
 |v::l,k,cells=>by
  obtain⟨h1,h2⟩:=C1 off l (k+1) (cells.setIfInBounds (off+k) v)
  refine⟨by simpa using h1,fun j => ?_⟩
  simp only[List.zipIdx_cons,List.foldl_cons,h2 j,Array.size_setIfInBounds,List.length_cons]
  by_cases hj:j<cells.size
  ·by_cases h3:j=off+k
   ·subst h3
    rw[if_neg (by omega),if_pos (by omega)]
    simp[hj]
   ·by_cases h4:off+(k+1)≤j∧j<off+(k+1)+l.length∧j<cells.size
    ·rw[if_pos h4,if_pos (by omega)]
     rw[show j-(off+k)=(j-(off+(k+1)))+1 from by omega,List.getElem?_cons_succ]
    ·rw[if_neg h4,if_neg (by omega),Array.getElem?_setIfInBounds_ne (by omega)]
  ·rw[if_neg (by omega),if_neg (by omega),Array.getElem?_eq_none (by simp;omega),Array.getElem?_eq_none (by omega)]
def fk{α:Type}(cells:List α)(off:Nat)(new:List α):List α:=cells.take off++(new++cells.drop (off+new.length))
theorem kQ{α:Type}(cells:List α)(off:Nat)(new:List α)(h:off+new.length≤cells.length)(j:Nat) :
  (fk cells off new)[j]? = if off≤j∧j<off+new.length then new[j-off]? else cells[j]? := by
 unfold fk
 rw[List.getElem?_append]
 simp only[List.length_take,Nat.min_eq_left (show off≤cells.length by omega)]
 by_cases h1:j<off
 ·rw[if_pos h1,if_neg (by omega),List.getElem?_take,if_pos h1]
 ·rw[if_neg h1,List.getElem?_append]
  by_cases h2:j<off+new.length
  ·rw[if_pos (by omega),if_pos (by omega)]
  ·rw[if_neg (by omega),if_neg (by omega),List.getElem?_drop]
   congr 1
   omega
theorem AE{α:Type}(cells:List α)(off:Nat)(new:List α)(h:off+new.length≤cells.length):(fk cells off new).length=cells.length:=by
 unfold fk;simp;omega
def rA(place:Nat→Option (Nat×Nat))(cells:List PV):List (Nat×PV)→Option (List PV)
 |[]=>some cells
 |(i,p)::rest =>
  match place i with
  |none=>none
  |some (off,size)=>bif Nat.beq p.cells.length size&&Nat.ble (off+p.cells.length) cells.length && !p.wc then rA place (fk cells off p.cells) rest else none
def zX(I:Nat→Prop)(w:World):List (Nat×PV)→List (Nat×Value)→Prop
 |[],[]=>True
 |(i,p)::r,(j,v)::s=>i=j∧Rd I w p v∧zX I w r s
 |_,_=>False
theorem vg{I:Nat→Prop}{w:World}(place:Nat→Option (Nat×Nat)):∀(ps:List (Nat×PV)) (vs:List (Nat×Value)) (cells:List PV) (us:Array Value) (out:List PV),
  zX I w ps vs→bV I w cells us.toList→rA place cells ps=some out→∃arr,Instr.fill place us vs=some arr∧bV I w out arr.toList
 |[],[],cells,us,out,_,hc,h=>by
  injection h with h;subst h
  exact⟨us,rfl,hc⟩
 |(i,p)::r,(j,v)::s,cells,us,out,hp,hc,h=>by
  obtain⟨rfl,hv,hr⟩:=hp
  unfold rA at h
  cases I1:place i with
  |none=>simp[I1] at h
  |some os =>
   obtain⟨off,size⟩:=os
   simp only[I1] at h
   cases hb:(Nat.beq p.cells.length size&&Nat.ble (off+p.cells.length) cells.length && !p.wc) with
   |false=>simp[hb] at h
   |true =>
    simp only[hb,cond_true] at h
    simp only[Bool.and_eq_true,Nat.beq_eq,Nat.ble_eq,Bool.not_eq_true'] at hb
    obtain⟨⟨qO,tU⟩,Zc⟩:=hb
    have XY:=hv.cells (fun vs e=>by subst e;simp[PV.wc] at Zc)
    have hl:p.cells.length=v.cells.size:=by simpa using XY.1
    have sD:cells.length=us.size:=by simpa using hc.1
    obtain⟨f1,f2⟩:=C1 off v.cells.toList 0 us
    have S6:v.cells.zipIdx.foldl (fun cs (x:Value×Nat)=>cs.setIfInBounds (off+x.2) x.1) us=(v.cells.toList.zipIdx 0).foldl (fun cs (x:Value×Nat)=>cs.setIfInBounds (off+x.2) x.1) us:=by
     rw[←Array.foldl_toList,Array.toList_zipIdx]
    have I2:=vg place r s (fk cells off p.cells) (v.cells.zipIdx.foldl (fun cs (x:Value×Nat)=>cs.setIfInBounds (off+x.2) x.1) us) out hr (by
     rw[S6]
     refine⟨by rw[AE _ _ _ tU];simpa[f1] using sD,fun j c u S7 hu => ?_⟩
     rw[kQ _ _ _ tU] at S7
     rw[Array.getElem?_toList,f2 j] at hu
     simp only[Nat.add_zero,Array.length_toList] at hu
     by_cases hj:off≤j∧j<off+p.cells.length
     ·rw[if_pos hj] at S7
      rw[if_pos (by omega)] at hu
      exact XY.2 _ c u S7 hu
     ·rw[if_neg hj] at S7
      rw[if_neg (by omega)] at hu
      exact hc.2 j c u S7 (by simpa using hu)) h
    obtain⟨arr,ha,eb⟩:=I2
    refine⟨arr,?_,eb⟩
    unfold Instr.fill
    simp only[I1]
    rw[if_neg (by simp;omega)]
    exact ha
 |[],_::_,_,_,_,hp,_,_=>hp.elim
 |_::_,[],_,_,_,hp,_,_=>hp.elim
def lk(fs:List (Nat×Nat×Bool))(i:Nat):Option (Nat×Nat):=(fs[i]?).map fun f=>(f.1,f.2.1)
theorem yC{P:Program}(w:World):∀(ff:List Field),(∀f∈ff,(P.info? f.type).isSome=true) →
  (ff.mapM fun f=>(do pure (f.offset,←sizeOf f.type):Sem (Nat×Nat))).run P w = .ok (ff.map fun f=>(f.offset,P.cellsOf f.type)) w
 |[],_=>rfl
 |f::r,h=>by
  obtain⟨i,hi⟩:=Option.isSome_iff_exists.1 (h f (by simp))
  have hs:(sizeOf f.type).run P w = .ok (P.cellsOf f.type) w:=by simp[sizeOf,typeInfo,hi,Program.cellsOf]
  rw[List.mapM_cons,Sem.run_bind,Sem.run_bind,hs,Result.andThen_ok,Sem.run_pure,Result.andThen_ok,Sem.run_bind,
   yC w r (fun f hf=>h f (by simp[hf]))]
  rfl
theorem xz{P:Program}{t:TypeId}{d:TD}{fs:List (Nat×Nat×Bool)}(hd:qN P t d)(hk:d.kind = .struct fs)(w:World){I:Nat→Prop}{ps:List (Nat×PV)}{vs:Array (Nat×Value)}{out:List PV}
  (hp:zX I w ps vs.toList) {zs:List PV} (Hy:∀us,bV I w d.zero us→bV I w zs us) (h:rA (lk fs) zs ps=some out):∃v,(Instr.build t vs).run P w = .ok v w∧Rd I w (.agg out) v:=by
 obtain⟨u,hu,_,hf⟩:=hd.under
 rw[hk] at hf
 obtain⟨ff,rfl,K9,AF⟩:=hf
 obtain⟨z,hz,_,_,S8⟩:=hd.sW w
 have S8:=Hy _ (S8 I w)
 have hm:(ff.mapM fun f=>(do pure (f.offset,←sizeOf f.type):Sem (Nat×Nat))).run P w = .ok (ff.map fun f=>(f.offset,P.cellsOf f.type)) w:=by
  have:=yC (P:=P) w ff.toList (fun f hf=>(AF f (by simpa using hf)).1)
  rw[←Array.toList_mapM] at this
  rw[Sem.run_map] at this
  cases hx:(ff.mapM fun f=>(do pure (f.offset,←sizeOf f.type):Sem (Nat×Nat))).run P w with
  |halt e w'=>rw[hx] at this;cases this
  |ok x w' =>
   rw[hx] at this
   simp only[Result.andThen_ok,Result.ok.injEq] at this
   obtain⟨h1,rfl⟩:=this
   congr 1
   apply Array.ext'
   simpa using h1
 have QC:((ff.map fun f=>(f.offset,P.cellsOf f.type))[·]?)=lk fs:=by
  funext i
  unfold lk
  rw[←K9]
  simp[List.getElem?_map,Array.getElem?_map]
  cases ff[i]? <;> rfl
 obtain⟨arr,ha,hr⟩:=vg (lk fs) ps vs.toList zs z.cells out hp S8 h
 refine⟨.agg arr,?_,hr.agg⟩
 have Oa:(fun x=>(ff.map fun f=>(f.offset,P.cellsOf f.type))[x]?)=lk fs:=QC
 simp only[Instr.build,Sem.run_bind,hz,Result.andThen_ok,run_underlying hu,hm]
 rw[Oa,ha]
 rfl
end Go.Proofs.YtllmkadmohkbfaaGreatDoor.Sym
