/- Bezout and Accepts of the program answer as the reference does. -/
import Derived.Test.YtboilcfohmmpbaaGreatDoorYSymE
namespace Go.Proofs.YtboilcfohmmpbaaGreatDoor.Sym
open Go Go.RowKit
section
variable {P:Program} {T:Tab} {a:Act} {w:World} {β:Nat→Option Nat} {L I:Nat→Prop} {sto:Sto} {ρ:Operand→Option EV} {h:Hint} {res:OpRes}
variable {dst:Option Tmp} {ty:TypeId} {pos:String} {after:Array Edge} {guard:Option (Nat×Bool)}
theorem exec_ok{o:Oper}{s:Sem Value}{v:Value}{w':World}(he:execOp a.eval o=(do pure (.value (←s)):Sem Next))(hs:s.run P w = .ok v w'):(execOp a.eval o).run P w = .ok (.value v) w':=by
 rw[he];simp[hs]
theorem pure1_eq{e:EV}(h:pure1 e=some res):res=⟨e,none,[]⟩:=by injection h with h;exact h.symm
theorem opRun_move{x:Operand}(hp:Pre a w β L I sto ρ)(hrun:opRun T sto dst (.move x) ρ h=some res):Does P ⟨dst,.move x,ty,pos,after,guard⟩ a β L I w res:=by
 simp only[opRun] at hrun
 split at hrun
 ·rename_i e he;rw[pure1_eq hrun];exact Does.pure rfl (hp.ev x e he)
 ·cases hrun
theorem opRun_assign{x:Operand}(hp:Pre a w β L I sto ρ)(hrun:opRun T sto dst (.assign x) ρ h=some res):Does P ⟨dst,.assign x,ty,pos,after,guard⟩ a β L I w res:=by
 simp only[opRun] at hrun
 split at hrun
 ·rw[pure1_eq hrun];exact Does.pure (e := .pv .nilS) rfl Rd.nilS
 ·split at hrun
  ·rename_i e he;rw[pure1_eq hrun];exact Does.pure rfl (hp.ev x e he)
  ·cases hrun
theorem RdCells.unnil{cs:List PV}{us:List Value}(h:RdCells I w cs us):RdCells I w (cs.map unnil) us:=by
 refine⟨by simpa using h.1,fun j c u hc hu => ?_⟩
 rw[List.getElem?_map] at hc
 cases hj:cs[j]? with
 |none=>simp[hj] at hc
 |some p =>
  simp[hj] at hc
  obtain⟨h1,h2⟩:=h.2 j p u hj hu
  subst hc
  cases p<;>first|exact⟨h1,h2⟩|skip
  cases h2
  exact⟨rfl,.nil _ _⟩
theorem RdCells.zeroH{d:TD}{us:List Value}(h:RdCells I w d.zero us)(hh:Hint):RdCells I w (zeroH hh d) us:=by
 unfold Sym.zeroH
 split
 ·exact h
 ·exact h.unnil
theorem zeroH_len(hh:Hint)(d:TD):(zeroH hh d).length=d.zero.length:=by
 unfold zeroH
 split<;>simp
theorem opRun_pick{c x y:Operand}(hp:Pre a w β L I sto ρ)(hrun:opRun T sto dst (.pick c x y) ρ h=some res)(hob:Alls res.ob):Does P ⟨dst,.pick c x y,ty,pos,after,guard⟩ a β L I w res:=by
 simp only[opRun] at hrun
 have key:∀(t:Bool) (e:EV),ρ c=some (.pv (.bool t))→ρ (bif t then x else y)=some e→(execOp a.eval ⟨dst,.pick c x y,ty,pos,after,guard⟩).run P w = .ok (.value (a.eval (bif t then x else y))) w:=by
  intro t e hc _
  have hb:=hp.ev c _ hc
  have hb':a.eval c = .bool t:=by
   generalize a.eval c=v at hb
   cases hb;rfl
  simp only[execOp,hb']
  cases t<;>simp[asBool]
 split at hrun
 ·rename_i t d hc
  split at hrun
  ·rename_i e he
   injection hrun with hrun;subst hrun
   have ht:t=d:=hob
   subst ht
   exact Does.pure (key t e hc he) (hp.ev _ e he)
  ·cases hrun
 ·rename_i t hc
  split at hrun
  ·rename_i e he
   injection hrun with hrun;subst hrun
   exact Does.pure (key t e hc he) (hp.ev _ e he)
  ·cases hrun
 ·cases hrun
theorem opRun_alloc{t:TypeId}(hT:TOk P T)(hp:Pre a w β L I sto ρ)(hrun:opRun T sto dst (.alloc t) ρ h=some res):Does P ⟨dst,.alloc t,ty,pos,after,guard⟩ a β L I w res:=by
 simp only[opRun] at hrun
 split at hrun
 ·rename_i d r hd
  injection hrun with hrun;subst hrun
  obtain⟨z,hz,_,_,hc⟩:=(hT t d hd).run_zero w
  refine⟨_,_,?_,Post.new (el:=t) (arr:=z.cells) hp.lb hp.ib (fun j e he=>by
   obtain⟨u,h1,h2,h3⟩:=((hc I w).zeroH h).evs (β:=β) (L:=L) j e he
   exact⟨u,by simpa using h1,h2,h3⟩) (.inl ⟨rfl,rfl⟩)⟩
  simp[execOp,Instr.alloc,hz,newVar,newRow]
 ·cases hrun
theorem opRun_box{t:TypeId}{x:Operand}(hp:Pre a w β L I sto ρ)(hrun:opRun T sto dst (.box t x) ρ h=some res):Does P ⟨dst,.box t x,ty,pos,after,guard⟩ a β L I w res:=by
 simp only[opRun] at hrun
 split at hrun
 ·rename_i e r he
  split at hrun
  ·rename_i cs hcs
   injection hrun with hrun;subst hrun
   refine⟨_,_,?_,Post.new (el:=t) (arr:=(a.eval x).cells) hp.lb hp.ib (fun j c hj=>cellsEV_sound (hp.ev x e he) hcs j c hj) (.inl ⟨rfl,rfl⟩)⟩
   simp[execOp,Instr.box,newVar,newRow]
  ·cases hrun
 ·cases hrun
theorem opRun_build{t:TypeId}{parts:Array (Nat×Operand)}(hT:TOk P T)(hp:Pre a w β L I sto ρ)(hrun:opRun T sto dst (.build t parts) ρ h=some res):Does P ⟨dst,.build t parts,ty,pos,after,guard⟩ a β L I w res:=by
 simp only[opRun] at hrun
 split at hrun
 ·rename_i d ps hd hps
  split at hrun
  ·rename_i fs hk
   split at hrun
   ·rename_i cs hcs
    rw[pure1_eq hrun]
    have hparts:=partsPV_sound hp.ev parts.toList ps hps
    obtain⟨v,h1,h2⟩:=run_build_struct (hT t d hd) hk w (vs:=parts.map fun (i,x)=>(i,a.eval x)) (by simpa using hparts) (zs:=zeroH h d) (fun us hus=>hus.zeroH h) hcs
    exact Does.pure (e := .pv (.agg cs)) (exec_ok rfl h1) h2
   ·cases hrun
  ·cases hrun
 ·cases hrun
theorem flat_get{α:Type}(z:List α):∀(n j:Nat),((List.replicate n z).flatten)[j]? = if j<n*z.length then z[j%z.length]? else none
 |0,j=>by simp
 |n+1,j=>by
  rw[List.replicate_succ,List.flatten_cons,List.getElem?_append,flat_get z n]
  have hm:(n+1)*z.length=z.length+n*z.length:=by rw[Nat.succ_mul];omega
  by_cases h1:j<z.length
  ·rw[if_pos h1,if_pos (by omega),Nat.mod_eq_of_lt h1]
  ·rw[if_neg h1]
   have h2:j%z.length=(j-z.length)%z.length:=by
    rw[Nat.mod_eq_sub_mod (by omega)]
   rw[h2]
   by_cases h3:j<(n+1)*z.length
   ·rw[if_pos h3,if_pos (by omega)]
   ·rw[if_neg h3,if_neg (by omega)]
theorem zeros_rd{cs:List PV}{us:Array Value}{I:Nat→Prop}(hc:RdCells I w cs us.toList)(n m:Nat)(hm:m=n*us.size)(hs:1≤us.size) :
  RdCells I w ((List.replicate n cs).flatten) ((Array.range m).map (us[·%us.size]!)).toList:=by
 have hl:cs.length=us.size:=by simpa using hc.1
 refine⟨by simp[hm,hl],fun j c u hj hu => ?_⟩
 rw[flat_get,hl] at hj
 simp only[Array.toList_map,Array.toList_range,List.getElem?_map] at hu
 by_cases hjm:j<n*us.size
 ·rw[if_pos hjm] at hj
  rw[List.getElem?_range (by omega)] at hu
  simp only[Option.map_some,Option.some.injEq] at hu
  have hlt:j%us.size<us.size:=Nat.mod_lt _ (by omega)
  refine hc.2 _ c u hj ?_
  rw[←hu]
  simp[hlt]
 ·rw[if_neg hjm] at hj;cases hj
theorem opRun_buildSlice{t:TypeId}{n:Nat}{parts:Array (Nat×Operand)}(hT:TOk P T)(hp:Pre a w β L I sto ρ)(hrun:opRun T sto dst (.buildSlice t n parts) ρ h=some res)(hob:Alls res.ob) :
  Does P ⟨dst,.buildSlice t n parts,ty,pos,after,guard⟩ a β L I w res:=by
 simp only[opRun] at hrun
 split at hrun
 ·rename_i d ps r hd hps
  split at hrun
  ·rename_i e hk
   split at hrun
   ·rename_i de hde
    cases hb:(Nat.ble (n*de.size) 4096&&Nat.ble 1 de.size) with
    |false=>simp[hb] at hrun
    |true =>
     simp only[hb,cond_true] at hrun
     simp only[Bool.and_eq_true,Nat.ble_eq] at hb
     split at hrun
     ·rename_i cs ob hcs0
      have hcs:fillPV (fun i=>some (i*de.size,de.size)) ((List.replicate n (zeroH h de)).flatten) ps=some cs:=by
       obtain⟨k1,k2⟩:=fillBy_spec hcs0
       split at hrun
       ·rw[k2 _ _ _ rfl] at k1;exact k1 True.intro
       ·injection hrun with hrun;subst hrun;exact k1 hob
      obtain⟨u,hu,_,hf⟩:=(hT t d hd).under
      rw[hk] at hf
      have hf:u = .slice e:=hf
      subst hf
      obtain⟨z,hz,_,hzs,hc⟩:=(hT e de hde).run_zero w
      have hparts:=partsPV_sound hp.ev parts.toList ps hps
      have hzero:=zeros_rd (w:=w) ((hc I w).zeroH h) n (n*de.size) (by rw[hzs]) (by omega)
      obtain⟨arr,ha,hr⟩:=fill_sound (fun i=>some (i*de.size,de.size)) ps _ _ _ cs hparts hzero hcs
      have hlen:arr.size=n*de.size:=by
       have h2:cs.length=n*de.size:=by
        have hz2:=(hT e de hde).zero_len
        have:∀(qs:List (Nat×PV)) (c o:List PV),fillPV (fun i=>some (i*de.size,de.size)) c qs=some o→o.length=c.length:=by
         intro qs
         induction qs with
         |nil=>intro c o h;injection h with h;rw[h]
         |cons q qs ih =>
          intro c o h
          obtain⟨i,p⟩:=q
          simp only[fillPV] at h
          cases hb':(Nat.beq p.cells.length de.size&&Nat.ble (i*de.size+p.cells.length) c.length && !p.isTup) with
          |false=>simp[hb'] at h
          |true =>
           simp only[hb',cond_true] at h
           simp only[Bool.and_eq_true,Nat.ble_eq] at hb'
           rw[ih _ _ h,splice_len _ _ _ hb'.1.2]
        rw[this _ _ _ hcs]
        simp[zeroH_len,hz2]
       have:=hr.1
       simp at this;omega
      have hpost:Post β L I w (some r) res (.slice (some ⟨w.heap.size,0,none⟩) n n) (w.alloc (.cells arr e)):=by
       split at hrun
       ·rename_i xs
        injection hrun with hrun;subst hrun
        obtain⟨g1,g2,g3⟩:=hob
        refine Post.newList hp.ib (fun j c hj => ?_) g1 g2 g3
        have hlt:j<arr.toList.length:=by rw[←hr.1];exact(List.getElem?_eq_some_iff.1 hj).1
        have hu2:=List.getElem?_eq_getElem hlt
        exact⟨arr.toList[j],by simp,hr.2 j c _ hj hu2⟩
       ·injection hrun with hrun;subst hrun
        exact Post.new (el:=e) (arr:=arr) hp.lb hp.ib (fun j c hj=>by
         obtain⟨u,h1,h2,h3⟩:=hr.evs (β:=β) (L:=L) j c hj
         exact⟨u,by simpa using h1,h2,h3⟩) (.inr ⟨n,de.size,rfl,rfl,by omega⟩)
      refine⟨_,_,?_,hpost⟩
      have h16:¬(n*de.size>2^24):=by omega
      have hfill:Instr.fill (fun i=>some (i*de.size,de.size)) ((Array.range (n*de.size)).map (z.cells[·%z.cells.size]!)) (parts.map fun (i,x)=>(i,a.eval x)).toList=some arr:=by
       simpa using ha
      refine exec_ok rfl ?_
      simp only[Instr.buildSlice,Sem.run_bind,run_underlying hu,Result.andThen_ok,(hT e de hde).run_sizeOf w,h16,if_false]
      by_cases h0:n*de.size=0
      ·simp only[h0,if_true,Sem.run_bind,Sem.run_pure,Result.andThen_ok]
       have hfill':Instr.fill (fun i=>some (i*de.size,de.size)) ((Array.range 0).map ((#[]:Array Value)[·%(#[]:Array Value).size]!)) (parts.map fun (i,x)=>(i,a.eval x)).toList=some arr:=by
        have hr0:∀f:Nat→Value,(Array.range 0).map f = #[]:=fun f=>by simp
        rw[←hfill,h0,hr0,hr0]
       rw[hfill']
       rfl
      ·simp only[h0,if_false,Sem.run_bind,hz,Sem.run_pure,Result.andThen_ok]
       rw[hfill]
       rfl
     ·cases hrun
   ·cases hrun
  ·cases hrun
 ·cases hrun
end
end Go.Proofs.YtboilcfohmmpbaaGreatDoor.Sym
