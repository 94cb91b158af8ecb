/- Lemmas for the statements of this seat. -/
import Derived.Test.YtfjfekodeplcoaaGreatWSymE
namespace Go.Proofs.YtfjfekodeplcoaaGreat.Sym
open Go Go.RowKit
section
variable {P:Program} {T:jZ} {a:Act} {w:World} {β:Nat→Option Nat} {L I:Nat→Prop} {sto:aN} {ρ:Operand→Option EV} {h:Hint} {res:mW}
variable {dst:Option Tmp} {ty:TypeId} {pos:String} {after:Array Edge} {guard:Option (Nat×Bool)}
theorem ct{o:Oper}{s:Sem Value}{v:Value}{w':World}(he:execOp a.eval o=(do pure (.value (←s)):Sem Next))(hs:s.run P w = .ok v w'):(execOp a.eval o).run P w = .ok (.value v) w':=by
 rw[he];simp[hs]
theorem cp{e:EV}(h:fC e=some res):res=⟨e,none,[]⟩:=by injection h with h;exact h.symm
theorem DK{x:Operand}(hp:wD a w β L I sto ρ)(ax:b9 T sto dst (.move x) ρ h=some res):cY P ⟨dst,.move x,ty,pos,after,guard⟩ a β L I w res:=by
 simp only[b9] at ax
 split at ax
 ·rename_i e he;rw[cp ax];exact cY.pure rfl (hp.ev x e he)
 ·cases ax
theorem AM{x:Operand}(hp:wD a w β L I sto ρ)(ax:b9 T sto dst (.assign x) ρ h=some res):cY P ⟨dst,.assign x,ty,pos,after,guard⟩ a β L I w res:=by
 simp only[b9] at ax
 split at ax
 ·rw[cp ax];exact cY.pure (e := .pv .fu) rfl Rd.fu
 ·split at ax
  ·rename_i e he;rw[cp ax];exact cY.pure rfl (hp.ev x e he)
  ·cases ax
theorem bJ.ER{cs:List PV}{us:List Value}(h:bJ I w cs us):bJ I w (cs.map ER) us:=by
 refine⟨by simpa using h.1,fun j c u hc hu => ?_⟩
 rw[List.getElem?_map] at hc
 cases hj:cs[j]? with
 |none=>simp[hj] at hc
 |some p =>
  simp[hj] at hc
  obtain⟨h1,h2⟩:=h.2 j p u hj hu
  subst hc
  cases p<;>first|exact⟨h1,h2⟩|skip
  cases h2
  exact⟨rfl,.nil _ _⟩
theorem bJ.ij{d:TD}{us:List Value}(h:bJ I w d.zero us)(hh:Hint):bJ I w (ij hh d) us:=by
 unfold Sym.ij
 split
 ·exact h
 ·exact h.ER
theorem FO(hh:Hint)(d:TD):(ij hh d).length=d.zero.length:=by
 unfold ij
 split<;>simp
theorem DL{c x y:Operand}(hp:wD a w β L I sto ρ)(ax:b9 T sto dst (.pick c x y) ρ h=some res)(cd:dw res.ob):cY P ⟨dst,.pick c x y,ty,pos,after,guard⟩ a β L I w res:=by
 simp only[b9] at ax
 have key:∀(t:Bool) (e:EV),ρ c=some (.pv (.bool t))→ρ (bif t then x else y)=some e→(execOp a.eval ⟨dst,.pick c x y,ty,pos,after,guard⟩).run P w = .ok (.value (a.eval (bif t then x else y))) w:=by
  intro t e hc _
  have hb:=hp.ev c _ hc
  have cX:a.eval c = .bool t:=by
   generalize a.eval c=v at hb
   cases hb;rfl
  simp only[execOp,cX]
  cases t<;>simp[asBool]
 split at ax
 ·rename_i t d hc
  split at ax
  ·rename_i e he
   injection ax with ax;subst ax
   have ht:t=d:=cd
   subst ht
   exact cY.pure (key t e hc he) (hp.ev _ e he)
  ·cases ax
 ·rename_i t hc
  split at ax
  ·rename_i e he
   injection ax with ax;subst ax
   exact cY.pure (key t e hc he) (hp.ev _ e he)
  ·cases ax
 ·cases ax
theorem B3{t:TypeId}(hT:mN P T)(hp:wD a w β L I sto ρ)(ax:b9 T sto dst (.alloc t) ρ h=some res):cY P ⟨dst,.alloc t,ty,pos,after,guard⟩ a β L I w res:=by
 simp only[b9] at ax
 split at ax
 ·rename_i d r hd
  injection ax with ax;subst ax
  obtain⟨z,hz,_,_,hc⟩:=(hT t d hd).pD w
  refine⟨_,_,?_,ta.new (el:=t) (arr:=z.cells) hp.lb hp.ib (fun j e he=>by
   obtain⟨u,h1,h2,h3⟩:=((hc I w).ij h).pE (β:=β) (L:=L) j e he
   exact⟨u,by simpa using h1,h2,h3⟩) (.inl ⟨rfl,rfl⟩)⟩
  simp[execOp,Instr.alloc,hz,newVar,newRow]
 ·cases ax
theorem FP{t:TypeId}{x:Operand}(hp:wD a w β L I sto ρ)(ax:b9 T sto dst (.box t x) ρ h=some res):cY P ⟨dst,.box t x,ty,pos,after,guard⟩ a β L I w res:=by
 simp only[b9] at ax
 split at ax
 ·rename_i e r he
  split at ax
  ·rename_i cs tQ
   injection ax with ax;subst ax
   refine⟨_,_,?_,ta.new (el:=t) (arr:=(a.eval x).cells) hp.lb hp.ib (fun j c hj=>mm (hp.ev x e he) tQ j c hj) (.inl ⟨rfl,rfl⟩)⟩
   simp[execOp,Instr.box,newVar,newRow]
  ·cases ax
 ·cases ax
theorem B4{t:TypeId}{parts:Array (Nat×Operand)}(hT:mN P T)(hp:wD a w β L I sto ρ)(ax:b9 T sto dst (.build t parts) ρ h=some res):cY P ⟨dst,.build t parts,ty,pos,after,guard⟩ a β L I w res:=by
 simp only[b9] at ax
 split at ax
 ·rename_i d ps hd mP
  split at ax
  ·rename_i fs hk
   split at ax
   ·rename_i cs tQ
    rw[cp ax]
    have xB:=pf hp.ev parts.toList ps mP
    obtain⟨v,h1,h2⟩:=uZ (hT t d hd) hk w (vs:=parts.map fun (i,x)=>(i,a.eval x)) (by simpa using xB) (zs:=ij h d) (fun us zv=>zv.ij h) tQ
    exact cY.pure (e := .pv (.agg cs)) (ct rfl h1) h2
   ·cases ax
  ·cases ax
 ·rename_i d hd mP
  split at ax
  ·rename_i fs ps hk PU
   split at ax
   ·rename_i cs tQ
    rw[cp ax]
    have xB:=sK hp.ev parts.toList ps PU
    obtain⟨arr,h1,h2,h3⟩:=tW (hT t d hd) hk w (R:=fun f u=>u.oneCell'=true∧RE β L I w f.ev u) (fun c u ho hr=>⟨hr.iD ho,hr⟩) (vs:=parts.map fun (i,x)=>(i,a.eval x)) (by simpa using xB) (zs:=ij h d) (fun us zv=>zv.ij h) tQ
    refine cY.pure (e := .gj cs) (ct rfl h1) ⟨arr,rfl,by simpa using h2.symm,fun j f u hf hu => ?_⟩
    obtain⟨g1,g2⟩:=h3 j f u hf (by simpa using hu)
    cases f with
    |pv p=>exact⟨PV.iS g2 g1,g2⟩
    |row r off len sz=>exact g2
   ·cases ax
  ·cases ax
 ·cases ax
theorem B5{α:Type}(z:List α):∀(n j:Nat),((List.replicate n z).flatten)[j]? = if j<n*z.length then z[j%z.length]? else none
 |0,j=>by simp
 |n+1,j=>by
  rw[List.replicate_succ,List.flatten_cons,List.getElem?_append,B5 z n]
  have hm:(n+1)*z.length=z.length+n*z.length:=by rw[Nat.succ_mul];omega
  by_cases h1:j<z.length
  ·rw[if_pos h1,if_pos (by omega),Nat.mod_eq_of_lt h1]
  ·rw[if_neg h1]
   have h2:j%z.length=(j-z.length)%z.length:=by
    rw[Nat.mod_eq_sub_mod (by omega)]
   rw[h2]
   by_cases h3:j<(n+1)*z.length
   ·rw[if_pos h3,if_pos (by omega)]
   ·rw[if_neg h3,if_neg (by omega)]
theorem xC{cs:List PV}{us:Array Value}{I:Nat→Prop}(hc:bJ I w cs us.toList)(n m:Nat)(hm:m=n*us.size)(hs:1≤us.size) :
  bJ I w ((List.replicate n cs).flatten) ((Array.range m).map (us[·%us.size]!)).toList:=by
 have hl:cs.length=us.size:=by simpa using hc.1
 refine⟨by simp[hm,hl],fun j c u hj hu => ?_⟩
 rw[B5,hl] at hj
 simp only[Array.toList_map,Array.toList_range,List.getElem?_map] at hu
 by_cases Pc:j<n*us.size
 ·rw[if_pos Pc] at hj
  rw[List.getElem?_range (by omega)] at hu
  simp only[Option.map_some,Option.some.injEq] at hu
  have cN:j%us.size<us.size:=Nat.mod_lt _ (by omega)
  refine hc.2 _ c u hj ?_
  rw[←hu]
  simp[cN]
 ·rw[if_neg Pc] at hj;cases hj
theorem u0{t:TypeId}{n:Nat}{parts:Array (Nat×Operand)}(hT:mN P T)(hp:wD a w β L I sto ρ)(ax:b9 T sto dst (.buildSlice t n parts) ρ h=some res)(cd:dw res.ob) :
  cY P ⟨dst,.buildSlice t n parts,ty,pos,after,guard⟩ a β L I w res:=by
 simp only[b9] at ax
 split at ax
 ·rename_i d ps r hd mP
  split at ax
  ·rename_i e hk
   split at ax
   ·rename_i de oA
    cases hb:(Nat.ble (n*de.size) 4096&&Nat.ble 1 de.size) with
    |false=>simp[hb] at ax
    |true =>
     simp only[hb,cond_true] at ax
     simp only[Bool.and_eq_true,Nat.ble_eq] at hb
     split at ax
     ·rename_i cs ob PW
      have tQ:qh (fun i=>some (i*de.size,de.size)) ((List.replicate n (ij h de)).flatten) ps=some cs:=by
       obtain⟨k1,k2⟩:=B2 PW
       split at ax
       ·rw[k2 _ _ _ rfl] at k1;exact k1 True.intro
       ·injection ax with ax;subst ax;exact k1 cd
      obtain⟨u,hu,_,hf⟩:=(hT t d hd).under
      rw[hk] at hf
      have hf:u = .slice e:=hf
      subst hf
      obtain⟨z,hz,_,xx,hc⟩:=(hT e de oA).pD w
      have xB:=pf hp.ev parts.toList ps mP
      have hzero:=xC (w:=w) ((hc I w).ij h) n (n*de.size) (by rw[xx]) (by omega)
      obtain⟨arr,ha,hr⟩:=s9 (fun i=>some (i*de.size,de.size)) ps _ _ _ cs xB hzero tQ
      have hlen:arr.size=n*de.size:=by
       have h2:cs.length=n*de.size:=by
        have G6:=(hT e de oA).GZ
        have:∀(qs:List (Nat×PV)) (c o:List PV),qh (fun i=>some (i*de.size,de.size)) c qs=some o→o.length=c.length:=by
         intro qs
         induction qs with
         |nil=>intro c o h;injection h with h;rw[h]
         |cons q qs ih =>
          intro c o h
          obtain⟨i,p⟩:=q
          simp only[qh] at h
          cases cX:(Nat.beq p.cells.length de.size&&Nat.ble (i*de.size+p.cells.length) c.length && !p.ra) with
          |false=>simp[cX] at h
          |true =>
           simp only[cX,cond_true] at h
           simp only[Bool.and_eq_true,Nat.ble_eq] at cX
           rw[ih _ _ h,qg _ _ _ cX.1.2]
        rw[this _ _ _ tQ]
        simp[FO,G6]
       have:=hr.1
       simp at this;omega
      have xD:ta β L I w (some r) res (.slice (some ⟨w.heap.size,0,none⟩) n n) (w.alloc (.cells arr e)):=by
       split at ax
       ·rename_i xs
        injection ax with ax;subst ax
        obtain⟨g1,g2,g3⟩:=cd
        refine ta.JC hp.ib (fun j c hj => ?_) g1 g2 g3
        have cN:j<arr.toList.length:=by rw[←hr.1];exact(List.getElem?_eq_some_iff.1 hj).1
        have B6:=List.getElem?_eq_getElem cN
        exact⟨arr.toList[j],by simp,hr.2 j c _ hj B6⟩
       ·injection ax with ax;subst ax
        exact ta.new (el:=e) (arr:=arr) hp.lb hp.ib (fun j c hj=>by
         obtain⟨u,h1,h2,h3⟩:=hr.pE (β:=β) (L:=L) j c hj
         exact⟨u,by simpa using h1,h2,h3⟩) (.inr ⟨n,de.size,rfl,rfl,by omega⟩)
      refine⟨_,_,?_,xD⟩
      have gu:¬(n*de.size>2^24):=by omega
      have KS:Instr.fill (fun i=>some (i*de.size,de.size)) ((Array.range (n*de.size)).map (z.cells[·%z.cells.size]!)) (parts.map fun (i,x)=>(i,a.eval x)).toList=some arr:=by
       simpa using ha
      refine ct rfl ?_
      simp only[Instr.buildSlice,Sem.run_bind,run_underlying hu,Result.andThen_ok,(hT e de oA).run_sizeOf w,gu,if_false]
      by_cases h0:n*de.size=0
      ·simp only[h0,if_true,Sem.run_bind,Sem.run_pure,Result.andThen_ok]
       have LA:Instr.fill (fun i=>some (i*de.size,de.size)) ((Array.range 0).map ((#[]:Array Value)[·%(#[]:Array Value).size]!)) (parts.map fun (i,x)=>(i,a.eval x)).toList=some arr:=by
        have Jd:∀f:Nat→Value,(Array.range 0).map f = #[]:=fun f=>by simp
        rw[←KS,h0,Jd,Jd]
       rw[LA]
       rfl
      ·simp only[h0,if_false,Sem.run_bind,hz,Sem.run_pure,Result.andThen_ok]
       rw[KS]
       rfl
     ·cases ax
   ·cases ax
  ·cases ax
 ·cases ax
end
end Go.Proofs.YtfjfekodeplcoaaGreat.Sym
