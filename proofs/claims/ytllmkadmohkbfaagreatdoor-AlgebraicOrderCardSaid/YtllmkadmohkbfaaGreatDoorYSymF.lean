/- The comparison of algebraic numbers is a total order that agrees with the comparison with fractions. The law AlgebraicOrder returns true for every input, with the tables of numerals of the Go library that the row lists as they are laid. -/
import Derived.Test.YtllmkadmohkbfaaGreatDoorYSymE
namespace Go.Proofs.YtllmkadmohkbfaaGreatDoor.Sym
open Go Go.RowKit
section
variable {P:Program} {T:j0} {a:Act} {w:World} {β:Nat→Option Nat} {L I:Nat→Prop} {aG:aS} {ρ:Operand→Option EV} {h:Hint} {res:mN}
variable {dst:Option Tmp} {ty:TypeId} {pos:String} {after:Array Edge} {guard:Option (Nat×Bool)}
theorem cD{o:Oper}{s:Sem Value}{v:Value}{w':World}(he:execOp a.eval o=(do pure (.value (←s)):Sem Next))(hs:s.run P w = .ok v w'):(execOp a.eval o).run P w = .ok (.value v) w':=by
 rw[he];simp[hs]
theorem cx{e:EV}(h:fS e=some res):res=⟨e,none,[]⟩:=by injection h with h;exact h.symm
theorem FN{x:Operand}(hp:xR a w β L I aG ρ)(aq:b8 T aG dst (.move x) ρ h=some res):cY P ⟨dst,.move x,ty,pos,after,guard⟩ a β L I w res:=by
 simp only[b8] at aq
 split at aq
 ·rename_i e he;rw[cx aq];exact cY.pure rfl (hp.ev x e he)
 ·cases aq
theorem Cu{x:Operand}(hp:xR a w β L I aG ρ)(aq:b8 T aG dst (.assign x) ρ h=some res):cY P ⟨dst,.assign x,ty,pos,after,guard⟩ a β L I w res:=by
 simp only[b8] at aq
 split at aq
 ·rw[cx aq];exact cY.pure (e := .pv .dF) rfl Rd.dF
 ·split at aq
  ·rename_i e he;rw[cx aq];exact cY.pure rfl (hp.ev x e he)
  ·cases aq
theorem bQ.G0{cs:List PV}{us:List Value}(h:bQ I w cs us):bQ I w (cs.map G0) us:=by
 refine⟨by simpa using h.1,fun j c u hc hu => ?_⟩
 rw[List.getElem?_map] at hc
 cases hj:cs[j]? with
 |none=>simp[hj] at hc
 |some p =>
  simp[hj] at hc
  obtain⟨h1,h2⟩:=h.2 j p u hj hu
  subst hc
  cases p<;>first|exact⟨h1,h2⟩|skip
  cases h2
  exact⟨rfl,.nil _ _⟩
theorem bQ.jy{d:TD}{us:List Value}(h:bQ I w d.zero us)(hh:Hint):bQ I w (jy hh d) us:=by
 unfold Sym.jy
 split
 ·exact h
 ·exact h.G0
theorem Ik(hh:Hint)(d:TD):(jy hh d).length=d.zero.length:=by
 unfold jy
 split<;>simp
theorem FO{c x y:Operand}(hp:xR a w β L I aG ρ)(aq:b8 T aG dst (.pick c x y) ρ h=some res)(cb:dA res.ob):cY P ⟨dst,.pick c x y,ty,pos,after,guard⟩ a β L I w res:=by
 simp only[b8] at aq
 have key:∀(t:Bool) (e:EV),ρ c=some (.pv (.bool t))→ρ (bif t then x else y)=some e→(execOp a.eval ⟨dst,.pick c x y,ty,pos,after,guard⟩).run P w = .ok (.value (a.eval (bif t then x else y))) w:=by
  intro t e hc _
  have hb:=hp.ev c _ hc
  have eN:a.eval c = .bool t:=by
   generalize a.eval c=v at hb
   cases hb;rfl
  simp only[execOp,eN]
  cases t<;>simp[asBool]
 split at aq
 ·rename_i t d hc
  split at aq
  ·rename_i e he
   injection aq with aq;subst aq
   have ht:t=d:=cb
   subst ht
   exact cY.pure (key t e hc he) (hp.ev _ e he)
  ·cases aq
 ·rename_i t hc
  split at aq
  ·rename_i e he
   injection aq with aq;subst aq
   exact cY.pure (key t e hc he) (hp.ev _ e he)
  ·cases aq
 ·cases aq
theorem DV{t:TypeId}(hT:mC P T)(hp:xR a w β L I aG ρ)(aq:b8 T aG dst (.alloc t) ρ h=some res):cY P ⟨dst,.alloc t,ty,pos,after,guard⟩ a β L I w res:=by
 simp only[b8] at aq
 split at aq
 ·rename_i d r hd
  injection aq with aq;subst aq
  obtain⟨z,hz,_,_,hc⟩:=(hT t d hd).re w
  refine⟨_,_,?_,tJ.new (el:=t) (arr:=z.cells) hp.lb hp.ib (fun j e he=>by
   obtain⟨u,h1,h2,h3⟩:=((hc I w).jy h).qR (β:=β) (L:=L) j e he
   exact⟨u,by simpa using h1,h2,h3⟩) (.inl ⟨rfl,rfl⟩)⟩
  simp[execOp,Instr.alloc,hz,newVar,newRow]
 ·cases aq
theorem Il{t:TypeId}{x:Operand}(hp:xR a w β L I aG ρ)(aq:b8 T aG dst (.box t x) ρ h=some res):cY P ⟨dst,.box t x,ty,pos,after,guard⟩ a β L I w res:=by
 simp only[b8] at aq
 split at aq
 ·rename_i e r he
  split at aq
  ·rename_i cs yK
   injection aq with aq;subst aq
   refine⟨_,_,?_,tJ.new (el:=t) (arr:=(a.eval x).cells) hp.lb hp.ib (fun j c hj=>oV (hp.ev x e he) yK j c hj) (.inl ⟨rfl,rfl⟩)⟩
   simp[execOp,Instr.box,newVar,newRow]
  ·cases aq
 ·cases aq
theorem DW{t:TypeId}{parts:Array (Nat×Operand)}(hT:mC P T)(hp:xR a w β L I aG ρ)(aq:b8 T aG dst (.build t parts) ρ h=some res):cY P ⟨dst,.build t parts,ty,pos,after,guard⟩ a β L I w res:=by
 simp only[b8] at aq
 split at aq
 ·rename_i d ps hd na
  split at aq
  ·rename_i fs hk
   split at aq
   ·rename_i cs yK
    rw[cx aq]
    have FP:=oW hp.ev parts.toList ps na
    obtain⟨v,h1,h2⟩:=vQ (hT t d hd) hk w (vs:=parts.map fun (i,x)=>(i,a.eval x)) (by simpa using FP) (zs:=jy h d) (fun us Cv=>Cv.jy h) yK
    exact cY.pure (e := .pv (.agg cs)) (cD rfl h1) h2
   ·cases aq
  ·cases aq
 ·cases aq
theorem DX{α:Type}(z:List α):∀(n j:Nat),((List.replicate n z).flatten)[j]? = if j<n*z.length then z[j%z.length]? else none
 |0,j=>by simp
 |n+1,j=>by
  rw[List.replicate_succ,List.flatten_cons,List.getElem?_append,DX z n]
  have hm:(n+1)*z.length=z.length+n*z.length:=by rw[Nat.succ_mul];omega
  by_cases h1:j<z.length
  ·rw[if_pos h1,if_pos (by omega),Nat.mod_eq_of_lt h1]
  ·rw[if_neg h1]
   have h2:j%z.length=(j-z.length)%z.length:=by
    rw[Nat.mod_eq_sub_mod (by omega)]
   rw[h2]
   by_cases h3:j<(n+1)*z.length
   ·rw[if_pos h3,if_pos (by omega)]
   ·rw[if_neg h3,if_neg (by omega)]
theorem yL{cs:List PV}{us:Array Value}{I:Nat→Prop}(hc:bQ I w cs us.toList)(n m:Nat)(hm:m=n*us.size)(hs:1≤us.size) :
  bQ I w ((List.replicate n cs).flatten) ((Array.range m).map (us[·%us.size]!)).toList:=by
 have hl:cs.length=us.size:=by simpa using hc.1
 refine⟨by simp[hm,hl],fun j c u hj hu => ?_⟩
 rw[DX,hl] at hj
 simp only[Array.toList_map,Array.toList_range,List.getElem?_map] at hu
 by_cases SK:j<n*us.size
 ·rw[if_pos SK] at hj
  rw[List.getElem?_range (by omega)] at hu
  simp only[Option.map_some,Option.some.injEq] at hu
  have bh:j%us.size<us.size:=Nat.mod_lt _ (by omega)
  refine hc.2 _ c u hj ?_
  rw[←hu]
  simp[bh]
 ·rw[if_neg SK] at hj;cases hj
theorem vS{t:TypeId}{n:Nat}{parts:Array (Nat×Operand)}(hT:mC P T)(hp:xR a w β L I aG ρ)(aq:b8 T aG dst (.buildSlice t n parts) ρ h=some res)(cb:dA res.ob) :
  cY P ⟨dst,.buildSlice t n parts,ty,pos,after,guard⟩ a β L I w res:=by
 simp only[b8] at aq
 split at aq
 ·rename_i d ps r hd na
  split at aq
  ·rename_i e hk
   split at aq
   ·rename_i de nk
    cases hb:(Nat.ble (n*de.size) 4096&&Nat.ble 1 de.size) with
    |false=>simp[hb] at aq
    |true =>
     simp only[hb,cond_true] at aq
     simp only[Bool.and_eq_true,Nat.ble_eq] at hb
     split at aq
     ·rename_i cs ob Tk
      have yK:lM (fun i=>some (i*de.size,de.size)) ((List.replicate n (jy h de)).flatten) ps=some cs:=by
       obtain⟨k1,k2⟩:=DU Tk
       split at aq
       ·rw[k2 _ _ _ rfl] at k1;exact k1 True.intro
       ·injection aq with aq;subst aq;exact k1 cb
      obtain⟨u,hu,_,hf⟩:=(hT t d hd).under
      rw[hk] at hf
      have hf:u = .slice e:=hf
      subst hf
      obtain⟨z,hz,_,FK,hc⟩:=(hT e de nk).re w
      have FP:=oW hp.ev parts.toList ps na
      have hzero:=yL (w:=w) ((hc I w).jy h) n (n*de.size) (by rw[FK]) (by omega)
      obtain⟨arr,ha,hr⟩:=tI (fun i=>some (i*de.size,de.size)) ps _ _ _ cs FP hzero yK
      have hlen:arr.size=n*de.size:=by
       have h2:cs.length=n*de.size:=by
        have OD:=(hT e de nk).Jt
        have:∀(qs:List (Nat×PV)) (c o:List PV),lM (fun i=>some (i*de.size,de.size)) c qs=some o→o.length=c.length:=by
         intro qs
         induction qs with
         |nil=>intro c o h;injection h with h;rw[h]
         |cons q qs ih =>
          intro c o h
          obtain⟨i,p⟩:=q
          simp only[lM] at h
          cases eN:(Nat.beq p.cells.length de.size&&Nat.ble (i*de.size+p.cells.length) c.length && !p.td) with
          |false=>simp[eN] at h
          |true =>
           simp only[eN,cond_true] at h
           simp only[Bool.and_eq_true,Nat.ble_eq] at eN
           rw[ih _ _ h,yH _ _ _ eN.1.2]
        rw[this _ _ _ yK]
        simp[Ik,OD]
       have:=hr.1
       simp at this;omega
      have yM:tJ β L I w (some r) res (.slice (some ⟨w.heap.size,0,none⟩) n n) (w.alloc (.cells arr e)):=by
       split at aq
       ·rename_i xs
        injection aq with aq;subst aq
        obtain⟨g1,g2,g3⟩:=cb
        refine tJ.Mk hp.ib (fun j c hj => ?_) g1 g2 g3
        have bh:j<arr.toList.length:=by rw[←hr.1];exact(List.getElem?_eq_some_iff.1 hj).1
        have Cw:=List.getElem?_eq_getElem bh
        exact⟨arr.toList[j],by simp,hr.2 j c _ hj Cw⟩
       ·injection aq with aq;subst aq
        exact tJ.new (el:=e) (arr:=arr) hp.lb hp.ib (fun j c hj=>by
         obtain⟨u,h1,h2,h3⟩:=hr.qR (β:=β) (L:=L) j c hj
         exact⟨u,by simpa using h1,h2,h3⟩) (.inr ⟨n,de.size,rfl,rfl,by omega⟩)
      refine⟨_,_,?_,yM⟩
      have Im:¬(n*de.size>2^24):=by omega
      have NN:Instr.fill (fun i=>some (i*de.size,de.size)) ((Array.range (n*de.size)).map (z.cells[·%z.cells.size]!)) (parts.map fun (i,x)=>(i,a.eval x)).toList=some arr:=by
       simpa using ha
      refine cD rfl ?_
      simp only[Instr.buildSlice,Sem.run_bind,run_underlying hu,Result.andThen_ok,(hT e de nk).run_sizeOf w,Im,if_false]
      by_cases h0:n*de.size=0
      ·simp only[h0,if_true,Sem.run_bind,Sem.run_pure,Result.andThen_ok]
       have OE:Instr.fill (fun i=>some (i*de.size,de.size)) ((Array.range 0).map ((#[]:Array Value)[·%(#[]:Array Value).size]!)) (parts.map fun (i,x)=>(i,a.eval x)).toList=some arr:=by
        have Bv:∀f:Nat→Value,(Array.range 0).map f = #[]:=fun f=>by simp
        rw[←NN,h0,Bv,Bv]
       rw[OE]
       rfl
      ·simp only[h0,if_false,Sem.run_bind,hz,Sem.run_pure,Result.andThen_ok]
       rw[NN]
       rfl
     ·cases aq
   ·cases aq
  ·cases aq
 ·cases aq
end
end Go.Proofs.YtllmkadmohkbfaaGreatDoor.Sym
