/- Lemmas for the statements of this seat. -/
import Derived.Test.YtneklnlpgfeplaaGreatW1
namespace Go.Proofs.YtneklnlpgfeplaaGreat.Sym
open Go Go.RowKit
theorem xl(off:Nat):∀(l:List Value) (k:Nat) (cells:Array Value),
  ((l.zipIdx k).foldl (fun cs (x:Value×Nat)=>cs.setIfInBounds (off+x.2) x.1) cells).size=cells.size ∧
  ∀j,((l.zipIdx k).foldl (fun cs (x:Value×Nat)=>cs.setIfInBounds (off+x.2) x.1) cells)[j]? =
   if off+k≤j∧j<off+k+l.length∧j<cells.size then l[j-(off+k)]? else cells[j]?
 |[],k,cells=>by refine⟨rfl,fun j => ?_⟩;simp;omega
 |v::l,k,cells=>by
  obtain⟨h1,h2⟩:=xl off l (k+1) (cells.setIfInBounds (off+k) v);refine⟨by simpa using h1,fun j => ?_⟩;simp only[List.zipIdx_cons,List.foldl_cons,h2 j,Array.size_setIfInBounds,List.length_cons];by_cases hj:j<cells.size
  ·by_cases h3:j=off+k
   ·subst h3;rw[ac3 (by omega),ac7 (by omega)];simp[hj]
   ·by_cases h4:off+(k+1)≤j∧j<off+(k+1)+l.length∧j<cells.size
    ·rw[ac7 h4,ac7 (by omega)];rw[show j-(off+k)=(j-(off+(k+1)))+1 from by omega,adh]
    ·rw[ac3 h4,ac3 (by omega),Array.getElem?_setIfInBounds_ne (by omega)]
  ·rw[ac3 (by omega),ac3 (by omega),Array.getElem?_eq_none (by simp;omega),Array.getElem?_eq_none (by omega)]
def dB{α:Type}(cells:List α)(off:Nat)(new:List α):List α:=cells.take off++(new++cells.drop (off+new.length))
theorem fY{α:Type}(cells:List α)(off:Nat)(new:List α)(h:off+new.length≤cells.length)(j:Nat) :
  (dB cells off new)[j]? = if off≤j∧j<off+new.length then new[j-off]? else cells[j]? := by
 unfold dB;rw[acC];simp only[List.length_take,Nat.min_eq_left (show off≤cells.length by omega)];by_cases h1:j<off
 ·rw[ac7 h1,ac3 (by omega),ack,ac7 h1]
 ·rw[ac3 h1,acC];by_cases h2:j<off+new.length
  ·rw[ac7 (by omega),ac7 (by omega)]
  ·rw[ac3 (by omega),ac3 (by omega),acq]
   congr 1
   omega
theorem q6{α:Type}(cells:List α)(off:Nat)(new:List α)(h:off+new.length≤cells.length):(dB cells off new).length=cells.length:=by unfold dB;simp;omega
def oF(place:Nat→Option (Nat×Nat))(cells:List PV):List (Nat×PV)→Option (List PV)
 |[]=>some cells
 |(i,p)::rest =>
  match place i with
  |none=>none
  |some (off,size)=>bif Nat.beq p.cells.length size&&Nat.ble (off+p.cells.length) cells.length && !p.sJ then oF place (dB cells off p.cells) rest else none
def vT(I:Nat→Prop)(w:World):List (Nat×PV)→List (Nat×Value)→Prop
 |[],[]=>True
 |(i,p)::r,(j,v)::s=>i=j∧Rd I w p v∧vT I w r s
 |_,_=>False
theorem q7{I:Nat→Prop}{w:World}(place:Nat→Option (Nat×Nat)):∀(ps:List (Nat×PV)) (vs:List (Nat×Value)) (cells:List PV) (us:Array Value) (out:List PV),
  vT I w ps vs→bO I w cells us.toList→oF place cells ps=some out→∃arr,Instr.fill place us vs=some arr∧bO I w out arr.toList
 |[],[],cells,us,out,_,hc,h=>by
  injection h with h;subst h
  exact⟨us,rfl,hc⟩
 |(i,p)::r,(j,v)::s,cells,us,out,hp,hc,h=>by
  obtain⟨rfl,hv,hr⟩:=hp;unfold oF at h;cases MD:place i with
  |none=>simp[MD] at h
  |some os =>
   obtain⟨off,size⟩:=os;simp only[MD] at h;cases hb:(Nat.beq p.cells.length size&&Nat.ble (off+p.cells.length) cells.length && !p.sJ) with
   |false=>simp[hb] at h
   |true =>
    simp only[hb,cond_true] at h;simp only[Bool.and_eq_true,Nat.beq_eq,Nat.ble_eq,Bool.not_eq_true'] at hb;obtain⟨⟨Gb,sG⟩,Zp⟩:=hb;have ME:=hv.cells (fun vs e=>by subst e;simp[PV.sJ] at Zp);have hl:p.cells.length=v.cells.size:=by simpa using ME.1
    have nJ:cells.length=us.size:=by simpa using hc.1
    obtain⟨f1,f2⟩:=xl off v.cells.toList 0 us;have JN:v.cells.zipIdx.foldl (fun cs (x:Value×Nat)=>cs.setIfInBounds (off+x.2) x.1) us=(v.cells.toList.zipIdx 0).foldl (fun cs (x:Value×Nat)=>cs.setIfInBounds (off+x.2) x.1) us:=by rw[←Array.foldl_toList,Array.toList_zipIdx]
    have Cq:=q7 place r s (dB cells off p.cells) (v.cells.zipIdx.foldl (fun cs (x:Value×Nat)=>cs.setIfInBounds (off+x.2) x.1) us) out hr (by
     rw[JN];refine⟨by rw[q6 _ _ _ sG];simpa[f1] using nJ,fun j c u JO hu => ?_⟩;rw[fY _ _ _ sG] at JO;rw[acB,f2 j] at hu;simp only[Nat.add_zero,Array.length_toList] at hu;by_cases hj:off≤j∧j<off+p.cells.length
     ·rw[ac7 hj] at JO;rw[ac7 (by omega)] at hu;exact ME.2 _ c u JO hu
     ·rw[ac3 hj] at JO;rw[ac3 (by omega)] at hu;exact hc.2 j c u JO (by simpa using hu)) h
    obtain⟨arr,ha,dx⟩:=Cq;refine⟨arr,?_,dx⟩;unfold Instr.fill;simp only[MD];rw[ac3 (by simp;omega)];exact ha
 |[],_::_,_,_,_,hp,_,_=>hp.elim
 |_::_,[],_,_,_,hp,_,_=>hp.elim
def zN(place:Nat→Option (Nat×Nat))(cells:List FE):List (Nat×List FE)→Option (List FE)
 |[]=>some cells
 |(i,cs)::rest =>
  match place i with
  |none=>none
  |some (off,size)=>bif Nat.beq cs.length size&&Nat.ble (off+cs.length) cells.length then zN place (dB cells off cs) rest else none
def zO(R:FE→Value→Prop)(cs:List FE)(us:List Value):Prop:=cs.length=us.length∧∀(j:Nat) c u,cs[j]? = some c→us[j]? = some u→R c u
def vV(R:FE→Value→Prop):List (Nat×List FE)→List (Nat×Value)→Prop
 |[],[]=>True
 |(i,cs)::r,(j,v)::s=>i=j∧zO R cs v.cells.toList∧vV R r s
 |_,_=>False
theorem vX{R:FE→Value→Prop}(place:Nat→Option (Nat×Nat)):∀(ps:List (Nat×List FE)) (vs:List (Nat×Value)) (cells:List FE) (us:Array Value) (out:List FE),
  vV R ps vs→zO R cells us.toList→zN place cells ps=some out→∃arr,Instr.fill place us vs=some arr∧zO R out arr.toList
 |[],[],cells,us,out,_,hc,h=>by
  injection h with h;subst h
  exact⟨us,rfl,hc⟩
 |(i,p)::r,(j,v)::s,cells,us,out,hp,hc,h=>by
  obtain⟨rfl,ME,hr⟩:=hp;unfold zN at h;cases MD:place i with
  |none=>simp[MD] at h
  |some os =>
   obtain⟨off,size⟩:=os;simp only[MD] at h;cases hb:(Nat.beq p.length size&&Nat.ble (off+p.length) cells.length) with
   |false=>simp[hb] at h
   |true =>
    simp only[hb,cond_true] at h;simp only[Bool.and_eq_true,Nat.beq_eq,Nat.ble_eq] at hb;obtain⟨Gb,sG⟩:=hb;have hl:p.length=v.cells.size:=by simpa using ME.1
    have nJ:cells.length=us.size:=by simpa using hc.1
    obtain⟨f1,f2⟩:=xl off v.cells.toList 0 us;have JN:v.cells.zipIdx.foldl (fun cs (x:Value×Nat)=>cs.setIfInBounds (off+x.2) x.1) us=(v.cells.toList.zipIdx 0).foldl (fun cs (x:Value×Nat)=>cs.setIfInBounds (off+x.2) x.1) us:=by rw[←Array.foldl_toList,Array.toList_zipIdx]
    have Cq:=vX place r s (dB cells off p) (v.cells.zipIdx.foldl (fun cs (x:Value×Nat)=>cs.setIfInBounds (off+x.2) x.1) us) out hr (by
     rw[JN];refine⟨by rw[q6 _ _ _ sG];simpa[f1] using nJ,fun j c u JO hu => ?_⟩;rw[fY _ _ _ sG] at JO;rw[acB,f2 j] at hu;simp only[Nat.add_zero,Array.length_toList] at hu;by_cases hj:off≤j∧j<off+p.length
     ·rw[ac7 hj] at JO;rw[ac7 (by omega)] at hu;exact ME.2 _ c u JO hu
     ·rw[ac3 hj] at JO;rw[ac3 (by omega)] at hu;exact hc.2 j c u JO (by simpa using hu)) h
    obtain⟨arr,ha,dx⟩:=Cq;refine⟨arr,?_,dx⟩;unfold Instr.fill;simp only[MD];rw[ac3 (by simp;omega)];exact ha
 |[],_::_,_,_,_,hp,_,_=>hp.elim
 |_::_,[],_,_,_,hp,_,_=>hp.elim
def eY(fs:List (Nat×Nat×Bool))(i:Nat):Option (Nat×Nat):=(fs[i]?).map fun f=>(f.1,f.2.1)
theorem sK{P:Program}(w:World):∀(ff:List Field),(∀f∈ff,(P.info? f.type).isSome=true) →
  (ff.mapM fun f=>(do pure (f.offset,←sizeOf f.type):Sem (Nat×Nat))).run P w = .ok (ff.map fun f=>(f.offset,P.cellsOf f.type)) w
 |[],_=>rfl
 |f::r,h=>by
  obtain⟨i,hi⟩:=abP.1 (h f (by simp));have hs:(sizeOf f.type).run P w = .ok (P.cellsOf f.type) w:=by simp[sizeOf,typeInfo,hi,Program.cellsOf]
  rw[afk,abU,abU,hs,abN,acp,abN,abU,
   sK w r (fun f hf=>h f (by simp[hf]))]
  rfl
theorem xm{P:Program}{t:TypeId}{d:TD}{fs:List (Nat×Nat×Bool)}(hd:od P t d)(hk:d.kind = .struct fs)(w:World){I:Nat→Prop}{ps:List (Nat×PV)}{vs:Array (Nat×Value)}{out:List PV}
  (hp:vT I w ps vs.toList) {zs:List PV} (yQ:∀us,bO I w d.zero us→bO I w zs us) (h:oF (eY fs) zs ps=some out):∃v,(Instr.build t vs).run P w = .ok v w∧Rd I w (.agg out) v:=by
 obtain⟨u,hu,_,hf⟩:=hd.under;rw[hk] at hf;obtain⟨ff,rfl,Mm,JP⟩:=hf;obtain⟨z,hz,_,_,Js⟩:=hd.oD w;have Js:=yQ _ (Js I w);have hm:(ff.mapM fun f=>(do pure (f.offset,←sizeOf f.type):Sem (Nat×Nat))).run P w = .ok (ff.map fun f=>(f.offset,P.cellsOf f.type)) w:=by
  have:=sK (P:=P) w ff.toList (fun f hf=>(JP f (by simpa using hf)).1);rw[←af3] at this;rw[Sem.run_map] at this;cases hx:(ff.mapM fun f=>(do pure (f.offset,←sizeOf f.type):Sem (Nat×Nat))).run P w with
  |halt e w'=>rw[hx] at this;cases this
  |ok x w' =>
   rw[hx] at this;simp only[Result.andThen_ok,Result.ok.injEq] at this;obtain⟨h1,rfl⟩:=this
   congr 1
   apply adN;simpa using h1
 have Gc:((ff.map fun f=>(f.offset,P.cellsOf f.type))[·]?)=eY fs:=by funext i;unfold eY;rw[←Mm];simp[List.getElem?_map,Array.getElem?_map];cases ff[i]? <;> rfl
 obtain⟨arr,ha,hr⟩:=q7 (eY fs) ps vs.toList zs z.cells out hp Js h;refine⟨.agg arr,?_,hr.agg⟩;have Dm:(fun x=>(ff.map fun f=>(f.offset,P.cellsOf f.type))[x]?)=eY fs:=Gc;simp only[Instr.build,Sem.run_bind,hz,Result.andThen_ok,run_underlying hu,hm];rw[Dm,ha];rfl
theorem yR{P:Program}{t el:TypeId}{d de:TD}{n:Nat}(hd:od P t d)(hk:d.kind = .array n el)(nL:od P el de)(w:World){I:Nat→Prop}{ps:List (Nat×PV)}{vs:Array (Nat×Value)}{out:List PV}
  (hp:vT I w ps vs.toList) {zs:List PV} (yQ:∀us,bO I w d.zero us→bO I w zs us) (h:oF (fun i=>some (i*de.size,de.size)) zs ps=some out):∃v,(Instr.build t vs).run P w = .ok v w∧Rd I w (.agg out) v:=by
 obtain⟨u,hu,_,hf⟩:=hd.under;rw[hk] at hf;obtain⟨rfl,_,_⟩:=hf;obtain⟨z,hz,_,_,Js⟩:=hd.oD w;obtain⟨arr,ha,hr⟩:=q7 _ ps vs.toList zs z.cells out hp (yQ _ (Js I w)) h;refine⟨.agg arr,?_,hr.agg⟩;simp only[Instr.build,Sem.run_bind,hz,Result.andThen_ok,run_underlying hu,nL.run_sizeOf w];rw[ha];rfl
theorem vY{P:Program}{t:TypeId}{d:TD}{fs:List (Nat×Nat×Bool)}(hd:od P t d)(hk:d.kind = .struct fs)(w:World){I:Nat→Prop}{R:FE→Value→Prop}(hR:∀c u,c.one=true→Rd I w c u→R (.pv c) u){ps:List (Nat×List FE)}{vs:Array (Nat×Value)}{out:List FE}
  (hp:vV R ps vs.toList) {zs:List PV} (yQ:∀us,bO I w d.zero us→bO I w zs us) (h:zN (eY fs) (zs.map FE.pv) ps=some out):∃arr,(Instr.build t vs).run P w = .ok (.agg arr) w∧zO R out arr.toList:=by
 obtain⟨u,hu,_,hf⟩:=hd.under;rw[hk] at hf;obtain⟨ff,rfl,Mm,JP⟩:=hf;obtain⟨z,hz,_,_,Js⟩:=hd.oD w;have Js:=yQ _ (Js I w);have hm:(ff.mapM fun f=>(do pure (f.offset,←sizeOf f.type):Sem (Nat×Nat))).run P w = .ok (ff.map fun f=>(f.offset,P.cellsOf f.type)) w:=by
  have:=sK (P:=P) w ff.toList (fun f hf=>(JP f (by simpa using hf)).1);rw[←af3] at this;rw[Sem.run_map] at this;cases hx:(ff.mapM fun f=>(do pure (f.offset,←sizeOf f.type):Sem (Nat×Nat))).run P w with
  |halt e w'=>rw[hx] at this;cases this
  |ok x w' =>
   rw[hx] at this;simp only[Result.andThen_ok,Result.ok.injEq] at this;obtain⟨h1,rfl⟩:=this
   congr 1
   apply adN;simpa using h1
 have Gc:((ff.map fun f=>(f.offset,P.cellsOf f.type))[·]?)=eY fs:=by funext i;unfold eY;rw[←Mm];simp[List.getElem?_map,Array.getElem?_map];cases ff[i]? <;> rfl
 have Zq:zO R (zs.map FE.pv) z.cells.toList:=by refine⟨by simpa using Js.1,fun j c u hc hu => ?_⟩;rw[abR,acP] at hc;obtain⟨p,hp,rfl⟩:=hc;obtain⟨h1,h2⟩:=Js.2 j p u hp hu;exact hR p u h1 h2
 obtain⟨arr,ha,hr⟩:=vX (eY fs) ps vs.toList _ z.cells out hp Zq h;refine⟨arr,?_,hr⟩;have Dm:(fun x=>(ff.map fun f=>(f.offset,P.cellsOf f.type))[x]?)=eY fs:=Gc;simp only[Instr.build,Sem.run_bind,hz,Result.andThen_ok,run_underlying hu,hm];rw[Dm,ha];rfl
end Go.Proofs.YtneklnlpgfeplaaGreat.Sym
