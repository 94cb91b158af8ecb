/- Lemmas for the statements of this seat. -/
import Derived.Test.YtcpnocgollpbhaaGreatDoorW1
namespace Go.Proofs.YtcpnocgollpbhaaGreatDoor.Sym
open Go Go.RowKit
theorem zy(off:Nat):∀(l:List Value) (k:Nat) (cells:Array Value),
  ((l.zipIdx k).foldl (fun cs (x:Value×Nat)=>cs.setIfInBounds (off+x.2) x.1) cells).size=cells.size ∧
  ∀j,((l.zipIdx k).foldl (fun cs (x:Value×Nat)=>cs.setIfInBounds (off+x.2) x.1) cells)[j]? =
   if off+k≤j∧j<off+k+l.length∧j<cells.size then l[j-(off+k)]? else cells[j]?
 |[],k,cells=>by refine⟨rfl,fun j => ?_⟩;simp;omega
 |v::l,k,cells=>by
  obtain⟨h1,h2⟩:=zy off l (k+1) (cells.setIfInBounds (off+k) v);refine⟨by simpa using h1,fun j => ?_⟩;simp only[List.zipIdx_cons,List.foldl_cons,h2 j,Array.size_setIfInBounds,List.length_cons];by_cases hj:j<cells.size
  ·by_cases h3:j=off+k
   ·subst h3;rw[afG (by omega),afI (by omega)];simp[hj]
   ·by_cases h4:off+(k+1)≤j∧j<off+(k+1)+l.length∧j<cells.size
    ·rw[afI h4,afI (by omega)];rw[show j-(off+k)=(j-(off+(k+1)))+1 from by omega,ah7]
    ·rw[afG h4,afG (by omega),Array.getElem?_setIfInBounds_ne (by omega)]
  ·rw[afG (by omega),afG (by omega),Array.getElem?_eq_none (by simp;omega),Array.getElem?_eq_none (by omega)]
def fg{α:Type}(cells:List α)(off:Nat)(new:List α):List α:=cells.take off++(new++cells.drop (off+new.length))
theorem kd{α:Type}(cells:List α)(off:Nat)(new:List α)(h:off+new.length≤cells.length)(j:Nat) :
  (fg cells off new)[j]? = if off≤j∧j<off+new.length then new[j-off]? else cells[j]? := by
 unfold fg;rw[agE];simp only[List.length_take,Nat.min_eq_left (show off≤cells.length by omega)];by_cases h1:j<off
 ·rw[afI h1,afG (by omega),agh,afI h1]
 ·rw[afG h1,agE];by_cases h2:j<off+new.length
  ·rw[afI (by omega),afI (by omega)]
  ·rw[afG (by omega),afG (by omega),agn]
   congr 1
   omega
theorem wR{α:Type}(cells:List α)(off:Nat)(new:List α)(h:off+new.length≤cells.length):(fg cells off new).length=cells.length:=by unfold fg;simp;omega
def sK(place:Nat→Option (Nat×Nat))(cells:List PV):List (Nat×PV)→Option (List PV)
 |[]=>some cells
 |(i,p)::rest =>
  match place i with
  |none=>none
  |some (off,size)=>bif Nat.beq p.cells.length size&&Nat.ble (off+p.cells.length) cells.length && !p.ub then sK place (fg cells off p.cells) rest else none
def BJ(I:Nat→Prop)(w:World):List (Nat×PV)→List (Nat×Value)→Prop
 |[],[]=>True
 |(i,p)::r,(j,v)::s=>i=j∧Rd I w p v∧BJ I w r s
 |_,_=>False
theorem wS{I:Nat→Prop}{w:World}(place:Nat→Option (Nat×Nat)):∀(ps:List (Nat×PV)) (vs:List (Nat×Value)) (cells:List PV) (us:Array Value) (out:List PV),
  BJ I w ps vs→bM I w cells us.toList→sK place cells ps=some out→∃arr,Instr.fill place us vs=some arr∧bM I w out arr.toList
 |[],[],cells,us,out,_,hc,h=>by
  injection h with h;subst h
  exact⟨us,rfl,hc⟩
 |(i,p)::r,(j,v)::s,cells,us,out,hp,hc,h=>by
  obtain⟨rfl,hv,hr⟩:=hp;unfold sK at h;cases HG:place i with
  |none=>simp[HG] at h
  |some os =>
   obtain⟨off,size⟩:=os;simp only[HG] at h;cases hb:(Nat.beq p.cells.length size&&Nat.ble (off+p.cells.length) cells.length && !p.ub) with
   |false=>simp[hb] at h
   |true =>
    simp only[hb,cond_true] at h;simp only[Bool.and_eq_true,Nat.beq_eq,Nat.ble_eq,Bool.not_eq_true'] at hb;obtain⟨⟨sE,tS⟩,hb3⟩:=hb;have WQ:=hv.cells (fun vs e=>by subst e;simp[PV.ub] at hb3);have hl:p.cells.length=v.cells.size:=by simpa using WQ.1
    have sF:cells.length=us.size:=by simpa using hc.1
    obtain⟨f1,f2⟩:=zy off v.cells.toList 0 us;have Ox:v.cells.zipIdx.foldl (fun cs (x:Value×Nat)=>cs.setIfInBounds (off+x.2) x.1) us=(v.cells.toList.zipIdx 0).foldl (fun cs (x:Value×Nat)=>cs.setIfInBounds (off+x.2) x.1) us:=by rw[←Array.foldl_toList,Array.toList_zipIdx]
    have E0:=wS place r s (fg cells off p.cells) (v.cells.zipIdx.foldl (fun cs (x:Value×Nat)=>cs.setIfInBounds (off+x.2) x.1) us) out hr (by
     rw[Ox];refine⟨by rw[wR _ _ _ tS];simpa[f1] using sF,fun j c u Oy hu => ?_⟩;rw[kd _ _ _ tS] at Oy;rw[agQ,f2 j] at hu;simp only[Nat.add_zero,Array.length_toList] at hu;by_cases hj:off≤j∧j<off+p.cells.length
     ·rw[afI hj] at Oy;rw[afI (by omega)] at hu;exact WQ.2 _ c u Oy hu
     ·rw[afG hj] at Oy;rw[afG (by omega)] at hu;exact hc.2 j c u Oy (by simpa using hu)) h
    obtain⟨arr,ha,dS⟩:=E0;refine⟨arr,?_,dS⟩;unfold Instr.fill;simp only[HG];rw[afG (by simp;omega)];exact ha
 |[],_::_,_,_,_,hp,_,_=>hp.elim
 |_::_,[],_,_,_,hp,_,_=>hp.elim
def Cq(place:Nat→Option (Nat×Nat))(cells:List FE):List (Nat×List FE)→Option (List FE)
 |[]=>some cells
 |(i,cs)::rest =>
  match place i with
  |none=>none
  |some (off,size)=>bif Nat.beq cs.length size&&Nat.ble (off+cs.length) cells.length then Cq place (fg cells off cs) rest else none
def Cr(R:FE→Value→Prop)(cs:List FE)(us:List Value):Prop:=cs.length=us.length∧∀(j:Nat) c u,cs[j]? = some c→us[j]? = some u→R c u
def xQ(R:FE→Value→Prop):List (Nat×List FE)→List (Nat×Value)→Prop
 |[],[]=>True
 |(i,cs)::r,(j,v)::s=>i=j∧Cr R cs v.cells.toList∧xQ R r s
 |_,_=>False
theorem xR{R:FE→Value→Prop}(place:Nat→Option (Nat×Nat)):∀(ps:List (Nat×List FE)) (vs:List (Nat×Value)) (cells:List FE) (us:Array Value) (out:List FE),
  xQ R ps vs→Cr R cells us.toList→Cq place cells ps=some out→∃arr,Instr.fill place us vs=some arr∧Cr R out arr.toList
 |[],[],cells,us,out,_,hc,h=>by
  injection h with h;subst h
  exact⟨us,rfl,hc⟩
 |(i,p)::r,(j,v)::s,cells,us,out,hp,hc,h=>by
  obtain⟨rfl,WQ,hr⟩:=hp;unfold Cq at h;cases HG:place i with
  |none=>simp[HG] at h
  |some os =>
   obtain⟨off,size⟩:=os;simp only[HG] at h;cases hb:(Nat.beq p.length size&&Nat.ble (off+p.length) cells.length) with
   |false=>simp[hb] at h
   |true =>
    simp only[hb,cond_true] at h;simp only[Bool.and_eq_true,Nat.beq_eq,Nat.ble_eq] at hb;obtain⟨sE,tS⟩:=hb;have hl:p.length=v.cells.size:=by simpa using WQ.1
    have sF:cells.length=us.size:=by simpa using hc.1
    obtain⟨f1,f2⟩:=zy off v.cells.toList 0 us;have Ox:v.cells.zipIdx.foldl (fun cs (x:Value×Nat)=>cs.setIfInBounds (off+x.2) x.1) us=(v.cells.toList.zipIdx 0).foldl (fun cs (x:Value×Nat)=>cs.setIfInBounds (off+x.2) x.1) us:=by rw[←Array.foldl_toList,Array.toList_zipIdx]
    have E0:=xR place r s (fg cells off p) (v.cells.zipIdx.foldl (fun cs (x:Value×Nat)=>cs.setIfInBounds (off+x.2) x.1) us) out hr (by
     rw[Ox];refine⟨by rw[wR _ _ _ tS];simpa[f1] using sF,fun j c u Oy hu => ?_⟩;rw[kd _ _ _ tS] at Oy;rw[agQ,f2 j] at hu;simp only[Nat.add_zero,Array.length_toList] at hu;by_cases hj:off≤j∧j<off+p.length
     ·rw[afI hj] at Oy;rw[afI (by omega)] at hu;exact WQ.2 _ c u Oy hu
     ·rw[afG hj] at Oy;rw[afG (by omega)] at hu;exact hc.2 j c u Oy (by simpa using hu)) h
    obtain⟨arr,ha,dS⟩:=E0;refine⟨arr,?_,dS⟩;unfold Instr.fill;simp only[HG];rw[afG (by simp;omega)];exact ha
 |[],_::_,_,_,_,hp,_,_=>hp.elim
 |_::_,[],_,_,_,hp,_,_=>hp.elim
def eY(fs:List (Nat×Nat×Bool))(i:Nat):Option (Nat×Nat):=(fs[i]?).map fun f=>(f.1,f.2.1)
theorem uc{P:Program}(w:World):∀(ff:List Field),(∀f∈ff,(P.info? f.type).isSome=true) →
  (ff.mapM fun f=>(do pure (f.offset,←sizeOf f.type):Sem (Nat×Nat))).run P w = .ok (ff.map fun f=>(f.offset,P.cellsOf f.type)) w
 |[],_=>rfl
 |f::r,h=>by
  obtain⟨i,hi⟩:=afS.1 (h f (by simp));have hs:(sizeOf f.type).run P w = .ok (P.cellsOf f.type) w:=by simp[sizeOf,typeInfo,hi,Program.cellsOf]
  rw[ajn,afL,afL,hs,aft,agq,aft,afL,
   uc w r (fun f hf=>h f (by simp[hf]))]
  rfl
theorem zA{P:Program}{t:TypeId}{d:TD}{fs:List (Nat×Nat×Bool)}(hd:qD P t d)(hk:d.kind = .struct fs)(w:World){I:Nat→Prop}{ps:List (Nat×PV)}{vs:Array (Nat×Value)}{out:List PV}
  (hp:BJ I w ps vs.toList) {zs:List PV} (HW:∀us,bM I w d.zero us→bM I w zs us) (h:sK (eY fs) zs ps=some out):∃v,(Instr.build t vs).run P w = .ok v w∧Rd I w (.agg out) v:=by
 obtain⟨u,hu,_,hf⟩:=hd.under;rw[hk] at hf;obtain⟨ff,rfl,Lt,zB⟩:=hf;obtain⟨z,hz,_,_,Ri⟩:=hd.r6 w;have Ri:=HW _ (Ri I w);have hm:(ff.mapM fun f=>(do pure (f.offset,←sizeOf f.type):Sem (Nat×Nat))).run P w = .ok (ff.map fun f=>(f.offset,P.cellsOf f.type)) w:=by
  have:=uc (P:=P) w ff.toList (fun f hf=>(zB f (by simpa using hf)).1);rw[←aj8] at this;rw[Sem.run_map] at this;cases hx:(ff.mapM fun f=>(do pure (f.offset,←sizeOf f.type):Sem (Nat×Nat))).run P w with
  |halt e w'=>rw[hx] at this;cases this
  |ok x w' =>
   rw[hx] at this;simp only[Result.andThen_ok,Result.ok.injEq] at this;obtain⟨h1,rfl⟩:=this
   congr 1
   apply ais;simpa using h1
 have J2:((ff.map fun f=>(f.offset,P.cellsOf f.type))[·]?)=eY fs:=by funext i;unfold eY;rw[←Lt];simp[List.getElem?_map,Array.getElem?_map];cases ff[i]? <;> rfl
 obtain⟨arr,ha,hr⟩:=wS (eY fs) ps vs.toList zs z.cells out hp Ri h;refine⟨.agg arr,?_,hr.agg⟩;have Ga:(fun x=>(ff.map fun f=>(f.offset,P.cellsOf f.type))[x]?)=eY fs:=J2;simp only[Instr.build,Sem.run_bind,hz,Result.andThen_ok,run_underlying hu,hm];rw[Ga,ha];rfl
theorem xS{P:Program}{t:TypeId}{d:TD}{fs:List (Nat×Nat×Bool)}(hd:qD P t d)(hk:d.kind = .struct fs)(w:World){I:Nat→Prop}{R:FE→Value→Prop}(hR:∀c u,c.one=true→Rd I w c u→R (.pv c) u){ps:List (Nat×List FE)}{vs:Array (Nat×Value)}{out:List FE}
  (hp:xQ R ps vs.toList) {zs:List PV} (HW:∀us,bM I w d.zero us→bM I w zs us) (h:Cq (eY fs) (zs.map FE.pv) ps=some out):∃arr,(Instr.build t vs).run P w = .ok (.agg arr) w∧Cr R out arr.toList:=by
 obtain⟨u,hu,_,hf⟩:=hd.under;rw[hk] at hf;obtain⟨ff,rfl,Lt,zB⟩:=hf;obtain⟨z,hz,_,_,Ri⟩:=hd.r6 w;have Ri:=HW _ (Ri I w);have hm:(ff.mapM fun f=>(do pure (f.offset,←sizeOf f.type):Sem (Nat×Nat))).run P w = .ok (ff.map fun f=>(f.offset,P.cellsOf f.type)) w:=by
  have:=uc (P:=P) w ff.toList (fun f hf=>(zB f (by simpa using hf)).1);rw[←aj8] at this;rw[Sem.run_map] at this;cases hx:(ff.mapM fun f=>(do pure (f.offset,←sizeOf f.type):Sem (Nat×Nat))).run P w with
  |halt e w'=>rw[hx] at this;cases this
  |ok x w' =>
   rw[hx] at this;simp only[Result.andThen_ok,Result.ok.injEq] at this;obtain⟨h1,rfl⟩:=this
   congr 1
   apply ais;simpa using h1
 have J2:((ff.map fun f=>(f.offset,P.cellsOf f.type))[·]?)=eY fs:=by funext i;unfold eY;rw[←Lt];simp[List.getElem?_map,Array.getElem?_map];cases ff[i]? <;> rfl
 have hzf:Cr R (zs.map FE.pv) z.cells.toList:=by refine⟨by simpa using Ri.1,fun j c u hc hu => ?_⟩;rw[afu,ah4] at hc;obtain⟨p,hp,rfl⟩:=hc;obtain⟨h1,h2⟩:=Ri.2 j p u hp hu;exact hR p u h1 h2
 obtain⟨arr,ha,hr⟩:=xR (eY fs) ps vs.toList _ z.cells out hp hzf h;refine⟨arr,?_,hr⟩;have Ga:(fun x=>(ff.map fun f=>(f.offset,P.cellsOf f.type))[x]?)=eY fs:=J2;simp only[Instr.build,Sem.run_bind,hz,Result.andThen_ok,run_underlying hu,hm];rw[Ga,ha];rfl
end Go.Proofs.YtcpnocgollpbhaaGreatDoor.Sym
