/- Lemmas for the statements of this seat. -/
import Derived.Test.YtllmkadmohkbfaaGreatDoorWSymE
namespace Go.Proofs.YtllmkadmohkbfaaGreatDoor.Sym
open Go Go.RowKit
section
variable {P:Program} {T:qU} {a:Act} {w:World} {β:Nat→Option Nat} {L I:Nat→Prop} {bp:cq} {ρ:Operand→Option EV} {h:Hint} {res:uC}
variable {dst:Option Tmp} {ty:TypeId} {pos:String} {after:Array Edge} {guard:Option (Nat×Bool)}
theorem gz{o:Oper}{s:Sem Value}{v:Value}{w':World}(he:execOp a.eval o=(do pure (.value (←s)):Sem Next))(hs:s.run P w = .ok v w'):(execOp a.eval o).run P w = .ok (.value v) w':=by
 rw[he];simp[hs]
theorem gi{e:EV}(h:mj e=some res):res=⟨e,none,[]⟩:=by injection h with h;exact h.symm
theorem Mp{x:Operand}(hp:Fk a w β L I bp ρ)(aH:fF T bp dst (.move x) ρ h=some res):im P ⟨dst,.move x,ty,pos,after,guard⟩ a β L I w res:=by
 simp only[fF] at aH
 split at aH
 ·rename_i e he;rw[gi aH];exact im.pure rfl (hp.ev x e he)
 ·cases aH
theorem Jv{x:Operand}(hp:Fk a w β L I bp ρ)(aH:fF T bp dst (.assign x) ρ h=some res):im P ⟨dst,.assign x,ty,pos,after,guard⟩ a β L I w res:=by
 simp only[fF] at aH
 split at aH
 ·rw[gi aH];exact im.pure (e := .pv .gb) rfl Rd.gb
 ·split at aH
  ·rename_i e he;rw[gi aH];exact im.pure rfl (hp.ev x e he)
  ·cases aH
theorem eh.NT{cs:List PV}{us:List Value}(h:eh I w cs us):eh I w (cs.map NT) us:=by
 refine⟨by simpa using h.1,fun j c u hc hu => ?_⟩
 rw[List.getElem?_map] at hc
 cases hj:cs[j]? with
 |none=>simp[hj] at hc
 |some p =>
  simp[hj] at hc
  obtain⟨h1,h2⟩:=h.2 j p u hj hu
  subst hc
  cases p<;>first|exact⟨h1,h2⟩|skip
  cases h2
  exact⟨rfl,.nil _ _⟩
theorem eh.qk{d:TD}{us:List Value}(h:eh I w d.zero us)(hh:Hint):eh I w (qk hh d) us:=by
 unfold Sym.qk
 split
 ·exact h
 ·exact h.NT
theorem OZ(hh:Hint)(d:TD):(qk hh d).length=d.zero.length:=by
 unfold qk
 split<;>simp
theorem Mq{c x y:Operand}(hp:Fk a w β L I bp ρ)(aH:fF T bp dst (.pick c x y) ρ h=some res)(fK:je res.ob):im P ⟨dst,.pick c x y,ty,pos,after,guard⟩ a β L I w res:=by
 simp only[fF] at aH
 have key:∀(t:Bool) (e:EV),ρ c=some (.pv (.bool t))→ρ (bif t then x else y)=some e→(execOp a.eval ⟨dst,.pick c x y,ty,pos,after,guard⟩).run P w = .ok (.value (a.eval (bif t then x else y))) w:=by
  intro t e hc _
  have hb:=hp.ev c _ hc
  have kI:a.eval c = .bool t:=by
   generalize a.eval c=v at hb
   cases hb;rfl
  simp only[execOp,kI]
  cases t<;>simp[asBool]
 split at aH
 ·rename_i t d hc
  split at aH
  ·rename_i e he
   injection aH with aH;subst aH
   have ht:t=d:=fK
   subst ht
   exact im.pure (key t e hc he) (hp.ev _ e he)
  ·cases aH
 ·rename_i t hc
  split at aH
  ·rename_i e he
   injection aH with aH;subst aH
   exact im.pure (key t e hc he) (hp.ev _ e he)
  ·cases aH
 ·cases aH
theorem KD{t:TypeId}(hT:uj P T)(hp:Fk a w β L I bp ρ)(aH:fF T bp dst (.alloc t) ρ h=some res):im P ⟨dst,.alloc t,ty,pos,after,guard⟩ a β L I w res:=by
 simp only[fF] at aH
 split at aH
 ·rename_i d r hd
  injection aH with aH;subst aH
  obtain⟨z,hz,_,_,hc⟩:=(hT t d hd).zL w
  refine⟨_,_,?_,BC.new (el:=t) (arr:=z.cells) hp.lb hp.ib (fun j e he=>by
   obtain⟨u,h1,h2,h3⟩:=((hc I w).qk h).zw (β:=β) (L:=L) j e he
   exact⟨u,by simpa using h1,h2,h3⟩) (.inl ⟨rfl,rfl⟩)⟩
  simp[execOp,Instr.alloc,hz,newVar,newRow]
 ·cases aH
theorem O0{t:TypeId}{x:Operand}(hp:Fk a w β L I bp ρ)(aH:fF T bp dst (.box t x) ρ h=some res):im P ⟨dst,.box t x,ty,pos,after,guard⟩ a β L I w res:=by
 simp only[fF] at aH
 split at aH
 ·rename_i e r he
  split at aH
  ·rename_i cs Gg
   injection aH with aH;subst aH
   refine⟨_,_,?_,BC.new (el:=t) (arr:=(a.eval x).cells) hp.lb hp.ib (fun j c hj=>xe (hp.ev x e he) Gg j c hj) (.inl ⟨rfl,rfl⟩)⟩
   simp[execOp,Instr.box,newVar,newRow]
  ·cases aH
 ·cases aH
theorem KE{t:TypeId}{parts:Array (Nat×Operand)}(hT:uj P T)(hp:Fk a w β L I bp ρ)(aH:fF T bp dst (.build t parts) ρ h=some res):im P ⟨dst,.build t parts,ty,pos,after,guard⟩ a β L I w res:=by
 simp only[fF] at aH
 split at aH
 ·rename_i d ps hd uR
  split at aH
  ·rename_i fs hk
   split at aH
   ·rename_i cs Gg
    rw[gi aH]
    have Mr:=xf hp.ev parts.toList ps uR
    obtain⟨v,h1,h2⟩:=DQ (hT t d hd) hk w (vs:=parts.map fun (i,x)=>(i,a.eval x)) (by simpa using Mr) (zs:=qk h d) (fun us Jw=>Jw.qk h) Gg
    exact im.pure (e := .pv (.agg cs)) (gz rfl h1) h2
   ·cases aH
  ·cases aH
 ·cases aH
theorem KF{α:Type}(z:List α):∀(n j:Nat),((List.replicate n z).flatten)[j]? = if j<n*z.length then z[j%z.length]? else none
 |0,j=>by simp
 |n+1,j=>by
  rw[List.replicate_succ,List.flatten_cons,List.getElem?_append,KF z n]
  have hm:(n+1)*z.length=z.length+n*z.length:=by rw[Nat.succ_mul];omega
  by_cases h1:j<z.length
  ·rw[if_pos h1,if_pos (by omega),Nat.mod_eq_of_lt h1]
  ·rw[if_neg h1]
   have h2:j%z.length=(j-z.length)%z.length:=by
    rw[Nat.mod_eq_sub_mod (by omega)]
   rw[h2]
   by_cases h3:j<(n+1)*z.length
   ·rw[if_pos h3,if_pos (by omega)]
   ·rw[if_neg h3,if_neg (by omega)]
theorem Gh{cs:List PV}{us:Array Value}{I:Nat→Prop}(hc:eh I w cs us.toList)(n m:Nat)(hm:m=n*us.size)(hs:1≤us.size) :
  eh I w ((List.replicate n cs).flatten) ((Array.range m).map (us[·%us.size]!)).toList:=by
 have hl:cs.length=us.size:=by simpa using hc.1
 refine⟨by simp[hm,hl],fun j c u hj hu => ?_⟩
 rw[KF,hl] at hj
 simp only[Array.toList_map,Array.toList_range,List.getElem?_map] at hu
 by_cases X4:j<n*us.size
 ·rw[if_pos X4] at hj
  rw[List.getElem?_range (by omega)] at hu
  simp only[Option.map_some,Option.some.injEq] at hu
  have bH:j%us.size<us.size:=Nat.mod_lt _ (by omega)
  refine hc.2 _ c u hj ?_
  rw[←hu]
  simp[bH]
 ·rw[if_neg X4] at hj;cases hj
theorem DS{t:TypeId}{n:Nat}{parts:Array (Nat×Operand)}(hT:uj P T)(hp:Fk a w β L I bp ρ)(aH:fF T bp dst (.buildSlice t n parts) ρ h=some res)(fK:je res.ob) :
  im P ⟨dst,.buildSlice t n parts,ty,pos,after,guard⟩ a β L I w res:=by
 simp only[fF] at aH
 split at aH
 ·rename_i d ps r hd uR
  split at aH
  ·rename_i e hk
   split at aH
   ·rename_i de u5
    cases hb:(Nat.ble (n*de.size) 4096&&Nat.ble 1 de.size) with
    |false=>simp[hb] at aH
    |true =>
     simp only[hb,cond_true] at aH
     simp only[Bool.and_eq_true,Nat.ble_eq] at hb
     split at aH
     ·rename_i cs ob YE
      have Gg:sQ (fun i=>some (i*de.size,de.size)) ((List.replicate n (qk h de)).flatten) ps=some cs:=by
       obtain⟨k1,k2⟩:=KC YE
       split at aH
       ·rw[k2 _ _ _ rfl] at k1;exact k1 True.intro
       ·injection aH with aH;subst aH;exact k1 fK
      obtain⟨u,hu,_,hf⟩:=(hT t d hd).under
      rw[hk] at hf
      have hf:u = .slice e:=hf
      subst hf
      obtain⟨z,hz,_,Mm,hc⟩:=(hT e de u5).zL w
      have Mr:=xf hp.ev parts.toList ps uR
      have hzero:=Gh (w:=w) ((hc I w).qk h) n (n*de.size) (by rw[Mm]) (by omega)
      obtain⟨arr,ha,hr⟩:=BB (fun i=>some (i*de.size,de.size)) ps _ _ _ cs Mr hzero Gg
      have hlen:arr.size=n*de.size:=by
       have h2:cs.length=n*de.size:=by
        have P9:=(hT e de u5).P6
        have:∀(qs:List (Nat×PV)) (c o:List PV),sQ (fun i=>some (i*de.size,de.size)) c qs=some o→o.length=c.length:=by
         intro qs
         induction qs with
         |nil=>intro c o h;injection h with h;rw[h]
         |cons q qs ih =>
          intro c o h
          obtain⟨i,p⟩:=q
          simp only[sQ] at h
          cases kI:(Nat.beq p.cells.length de.size&&Nat.ble (i*de.size+p.cells.length) c.length && !p.Bk) with
          |false=>simp[kI] at h
          |true =>
           simp only[kI,cond_true] at h
           simp only[Bool.and_eq_true,Nat.ble_eq] at kI
           rw[ih _ _ h,Gc _ _ _ kI.1.2]
        rw[this _ _ _ Gg]
        simp[OZ,P9]
       have:=hr.1
       simp at this;omega
      have Gi:BC β L I w (some r) res (.slice (some ⟨w.heap.size,0,none⟩) n n) (w.alloc (.cells arr e)):=by
       split at aH
       ·rename_i xs
        injection aH with aH;subst aH
        obtain⟨g1,g2,g3⟩:=fK
        refine BC.Sp hp.ib (fun j c hj => ?_) g1 g2 g3
        have bH:j<arr.toList.length:=by rw[←hr.1];exact(List.getElem?_eq_some_iff.1 hj).1
        have Ic:=List.getElem?_eq_getElem bH
        exact⟨arr.toList[j],by simp,hr.2 j c _ hj Ic⟩
       ·injection aH with aH;subst aH
        exact BC.new (el:=e) (arr:=arr) hp.lb hp.ib (fun j c hj=>by
         obtain⟨u,h1,h2,h3⟩:=hr.zw (β:=β) (L:=L) j c hj
         exact⟨u,by simpa using h1,h2,h3⟩) (.inr ⟨n,de.size,rfl,rfl,by omega⟩)
      refine⟨_,_,?_,Gi⟩
      have sR:¬(n*de.size>2^24):=by omega
      have TM:Instr.fill (fun i=>some (i*de.size,de.size)) ((Array.range (n*de.size)).map (z.cells[·%z.cells.size]!)) (parts.map fun (i,x)=>(i,a.eval x)).toList=some arr:=by
       simpa using ha
      refine gz rfl ?_
      simp only[Instr.buildSlice,Sem.run_bind,run_underlying hu,Result.andThen_ok,(hT e de u5).run_sizeOf w,sR,if_false]
      by_cases h0:n*de.size=0
      ·simp only[h0,if_true,Sem.run_bind,Sem.run_pure,Result.andThen_ok]
       have Ur:Instr.fill (fun i=>some (i*de.size,de.size)) ((Array.range 0).map ((#[]:Array Value)[·%(#[]:Array Value).size]!)) (parts.map fun (i,x)=>(i,a.eval x)).toList=some arr:=by
        have IN:∀f:Nat→Value,(Array.range 0).map f = #[]:=fun f=>by simp
        rw[←TM,h0,IN,IN]
       rw[Ur]
       rfl
      ·simp only[h0,if_false,Sem.run_bind,hz,Sem.run_pure,Result.andThen_ok]
       rw[TM]
       rfl
     ·cases aH
   ·cases aH
  ·cases aH
 ·cases aH
end
end Go.Proofs.YtllmkadmohkbfaaGreatDoor.Sym
