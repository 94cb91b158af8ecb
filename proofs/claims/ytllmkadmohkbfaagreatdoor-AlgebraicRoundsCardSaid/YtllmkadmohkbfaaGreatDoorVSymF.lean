/- Lemmas for the statements of this seat. -/
import Derived.Test.YtllmkadmohkbfaaGreatDoorVSymE
namespace Go.Proofs.YtllmkadmohkbfaaGreatDoor.Sym
open Go Go.RowKit
section
variable {P:Program} {T:kL} {a:Act} {w:World} {β:Nat→Option Nat} {L I:Nat→Prop} {aG:aS} {ρ:Operand→Option EV} {h:Hint} {res:nZ}
variable {dst:Option Tmp} {ty:TypeId} {pos:String} {after:Array Edge} {guard:Option (Nat×Bool)}
theorem cM{o:Oper}{s:Sem Value}{v:Value}{w':World}(he:execOp a.eval o=(do pure (.value (←s)):Sem Next))(hs:s.run P w = .ok v w'):(execOp a.eval o).run P w = .ok (.value v) w':=by
 rw[he];simp[hs]
theorem cJ{e:EV}(h:gJ e=some res):res=⟨e,none,[]⟩:=by injection h with h;exact h.symm
theorem HB{x:Operand}(hp:zG a w β L I aG ρ)(aq:cf T aG dst (.move x) ρ h=some res):dq P ⟨dst,.move x,ty,pos,after,guard⟩ a β L I w res:=by
 simp only[cf] at aq
 split at aq
 ·rename_i e he;rw[cJ aq];exact dq.pure rfl (hp.ev x e he)
 ·cases aq
theorem D2{x:Operand}(hp:zG a w β L I aG ρ)(aq:cf T aG dst (.assign x) ρ h=some res):dq P ⟨dst,.assign x,ty,pos,after,guard⟩ a β L I w res:=by
 simp only[cf] at aq
 split at aq
 ·rw[cJ aq];exact dq.pure (e := .pv .dZ) rfl Rd.dZ
 ·split at aq
  ·rename_i e he;rw[cJ aq];exact dq.pure rfl (hp.ev x e he)
  ·cases aq
theorem bV.I3{cs:List PV}{us:List Value}(h:bV I w cs us):bV I w (cs.map I3) us:=by
 refine⟨by simpa using h.1,fun j c u hc hu => ?_⟩
 rw[List.getElem?_map] at hc
 cases hj:cs[j]? with
 |none=>simp[hj] at hc
 |some p =>
  simp[hj] at hc
  obtain⟨h1,h2⟩:=h.2 j p u hj hu
  subst hc
  cases p<;>first|exact⟨h1,h2⟩|skip
  cases h2
  exact⟨rfl,.nil _ _⟩
theorem bV.kf{d:TD}{us:List Value}(h:bV I w d.zero us)(hh:Hint):bV I w (kf hh d) us:=by
 unfold Sym.kf
 split
 ·exact h
 ·exact h.I3
theorem Ki(hh:Hint)(d:TD):(kf hh d).length=d.zero.length:=by
 unfold kf
 split<;>simp
theorem HC{c x y:Operand}(hp:zG a w β L I aG ρ)(aq:cf T aG dst (.pick c x y) ρ h=some res)(cr:dP res.ob):dq P ⟨dst,.pick c x y,ty,pos,after,guard⟩ a β L I w res:=by
 simp only[cf] at aq
 have key:∀(t:Bool) (e:EV),ρ c=some (.pv (.bool t))→ρ (bif t then x else y)=some e→(execOp a.eval ⟨dst,.pick c x y,ty,pos,after,guard⟩).run P w = .ok (.value (a.eval (bif t then x else y))) w:=by
  intro t e hc _
  have hb:=hp.ev c _ hc
  have fz:a.eval c = .bool t:=by
   generalize a.eval c=v at hb
   cases hb;rfl
  simp only[execOp,fz]
  cases t<;>simp[asBool]
 split at aq
 ·rename_i t d hc
  split at aq
  ·rename_i e he
   injection aq with aq;subst aq
   have ht:t=d:=cr
   subst ht
   exact dq.pure (key t e hc he) (hp.ev _ e he)
  ·cases aq
 ·rename_i t hc
  split at aq
  ·rename_i e he
   injection aq with aq;subst aq
   exact dq.pure (key t e hc he) (hp.ev _ e he)
  ·cases aq
 ·cases aq
theorem Ft{t:TypeId}(hT:nM P T)(hp:zG a w β L I aG ρ)(aq:cf T aG dst (.alloc t) ρ h=some res):dq P ⟨dst,.alloc t,ty,pos,after,guard⟩ a β L I w res:=by
 simp only[cf] at aq
 split at aq
 ·rename_i d r hd
  injection aq with aq;subst aq
  obtain⟨z,hz,_,_,hc⟩:=(hT t d hd).sW w
  refine⟨_,_,?_,vh.new (el:=t) (arr:=z.cells) hp.lb hp.ib (fun j e he=>by
   obtain⟨u,h1,h2,h3⟩:=((hc I w).kf h).sE (β:=β) (L:=L) j e he
   exact⟨u,by simpa using h1,h2,h3⟩) (.inl ⟨rfl,rfl⟩)⟩
  simp[execOp,Instr.alloc,hz,newVar,newRow]
 ·cases aq
theorem Kj{t:TypeId}{x:Operand}(hp:zG a w β L I aG ρ)(aq:cf T aG dst (.box t x) ρ h=some res):dq P ⟨dst,.box t x,ty,pos,after,guard⟩ a β L I w res:=by
 simp only[cf] at aq
 split at aq
 ·rename_i e r he
  split at aq
  ·rename_i cs AH
   injection aq with aq;subst aq
   refine⟨_,_,?_,vh.new (el:=t) (arr:=(a.eval x).cells) hp.lb hp.ib (fun j c hj=>qy (hp.ev x e he) AH j c hj) (.inl ⟨rfl,rfl⟩)⟩
   simp[execOp,Instr.box,newVar,newRow]
  ·cases aq
 ·cases aq
theorem Fu{t:TypeId}{parts:Array (Nat×Operand)}(hT:nM P T)(hp:zG a w β L I aG ρ)(aq:cf T aG dst (.build t parts) ρ h=some res):dq P ⟨dst,.build t parts,ty,pos,after,guard⟩ a β L I w res:=by
 simp only[cf] at aq
 split at aq
 ·rename_i d ps hd ov
  split at aq
  ·rename_i fs hk
   split at aq
   ·rename_i cs AH
    rw[cJ aq]
    have HD:=qz hp.ev parts.toList ps ov
    obtain⟨v,h1,h2⟩:=xz (hT t d hd) hk w (vs:=parts.map fun (i,x)=>(i,a.eval x)) (by simpa using HD) (zs:=kf h d) (fun us D3=>D3.kf h) AH
    exact dq.pure (e := .pv (.agg cs)) (cM rfl h1) h2
   ·cases aq
  ·cases aq
 ·cases aq
theorem Fv{α:Type}(z:List α):∀(n j:Nat),((List.replicate n z).flatten)[j]? = if j<n*z.length then z[j%z.length]? else none
 |0,j=>by simp
 |n+1,j=>by
  rw[List.replicate_succ,List.flatten_cons,List.getElem?_append,Fv z n]
  have hm:(n+1)*z.length=z.length+n*z.length:=by rw[Nat.succ_mul];omega
  by_cases h1:j<z.length
  ·rw[if_pos h1,if_pos (by omega),Nat.mod_eq_of_lt h1]
  ·rw[if_neg h1]
   have h2:j%z.length=(j-z.length)%z.length:=by
    rw[Nat.mod_eq_sub_mod (by omega)]
   rw[h2]
   by_cases h3:j<(n+1)*z.length
   ·rw[if_pos h3,if_pos (by omega)]
   ·rw[if_neg h3,if_neg (by omega)]
theorem AI{cs:List PV}{us:Array Value}{I:Nat→Prop}(hc:bV I w cs us.toList)(n m:Nat)(hm:m=n*us.size)(hs:1≤us.size) :
  bV I w ((List.replicate n cs).flatten) ((Array.range m).map (us[·%us.size]!)).toList:=by
 have hl:cs.length=us.size:=by simpa using hc.1
 refine⟨by simp[hm,hl],fun j c u hj hu => ?_⟩
 rw[Fv,hl] at hj
 simp only[Array.toList_map,Array.toList_range,List.getElem?_map] at hu
 by_cases UQ:j<n*us.size
 ·rw[if_pos UQ] at hj
  rw[List.getElem?_range (by omega)] at hu
  simp only[Option.map_some,Option.some.injEq] at hu
  have ba:j%us.size<us.size:=Nat.mod_lt _ (by omega)
  refine hc.2 _ c u hj ?_
  rw[←hu]
  simp[ba]
 ·rw[if_neg UQ] at hj;cases hj
theorem xC{t:TypeId}{n:Nat}{parts:Array (Nat×Operand)}(hT:nM P T)(hp:zG a w β L I aG ρ)(aq:cf T aG dst (.buildSlice t n parts) ρ h=some res)(cr:dP res.ob) :
  dq P ⟨dst,.buildSlice t n parts,ty,pos,after,guard⟩ a β L I w res:=by
 simp only[cf] at aq
 split at aq
 ·rename_i d ps r hd ov
  split at aq
  ·rename_i e hk
   split at aq
   ·rename_i de oB
    cases hb:(Nat.ble (n*de.size) 4096&&Nat.ble 1 de.size) with
    |false=>simp[hb] at aq
    |true =>
     simp only[hb,cond_true] at aq
     simp only[Bool.and_eq_true,Nat.ble_eq] at hb
     split at aq
     ·rename_i cs ob Vv
      have AH:rA (fun i=>some (i*de.size,de.size)) ((List.replicate n (kf h de)).flatten) ps=some cs:=by
       obtain⟨k1,k2⟩:=Fs Vv
       split at aq
       ·rw[k2 _ _ _ rfl] at k1;exact k1 True.intro
       ·injection aq with aq;subst aq;exact k1 cr
      obtain⟨u,hu,_,hf⟩:=(hT t d hd).under
      rw[hk] at hf
      have hf:u = .slice e:=hf
      subst hf
      obtain⟨z,hz,_,Hy,hc⟩:=(hT e de oB).sW w
      have HD:=qz hp.ev parts.toList ps ov
      have hzero:=AI (w:=w) ((hc I w).kf h) n (n*de.size) (by rw[Hy]) (by omega)
      obtain⟨arr,ha,hr⟩:=vg (fun i=>some (i*de.size,de.size)) ps _ _ _ cs HD hzero AH
      have hlen:arr.size=n*de.size:=by
       have h2:cs.length=n*de.size:=by
        have Og:=(hT e de oB).Ls
        have:∀(qs:List (Nat×PV)) (c o:List PV),rA (fun i=>some (i*de.size,de.size)) c qs=some o→o.length=c.length:=by
         intro qs
         induction qs with
         |nil=>intro c o h;injection h with h;rw[h]
         |cons q qs ih =>
          intro c o h
          obtain⟨i,p⟩:=q
          simp only[rA] at h
          cases fz:(Nat.beq p.cells.length de.size&&Nat.ble (i*de.size+p.cells.length) c.length && !p.wc) with
          |false=>simp[fz] at h
          |true =>
           simp only[fz,cond_true] at h
           simp only[Bool.and_eq_true,Nat.ble_eq] at fz
           rw[ih _ _ h,AE _ _ _ fz.1.2]
        rw[this _ _ _ AH]
        simp[Ki,Og]
       have:=hr.1
       simp at this;omega
      have AJ:vh β L I w (some r) res (.slice (some ⟨w.heap.size,0,none⟩) n n) (w.alloc (.cells arr e)):=by
       split at aq
       ·rename_i xs
        injection aq with aq;subst aq
        obtain⟨g1,g2,g3⟩:=cr
        refine vh.Oe hp.ib (fun j c hj => ?_) g1 g2 g3
        have ba:j<arr.toList.length:=by rw[←hr.1];exact(List.getElem?_eq_some_iff.1 hj).1
        have Fw:=List.getElem?_eq_getElem ba
        exact⟨arr.toList[j],by simp,hr.2 j c _ hj Fw⟩
       ·injection aq with aq;subst aq
        exact vh.new (el:=e) (arr:=arr) hp.lb hp.ib (fun j c hj=>by
         obtain⟨u,h1,h2,h3⟩:=hr.sE (β:=β) (L:=L) j c hj
         exact⟨u,by simpa using h1,h2,h3⟩) (.inr ⟨n,de.size,rfl,rfl,by omega⟩)
      refine⟨_,_,?_,AJ⟩
      have yD:¬(n*de.size>2^24):=by omega
      have PH:Instr.fill (fun i=>some (i*de.size,de.size)) ((Array.range (n*de.size)).map (z.cells[·%z.cells.size]!)) (parts.map fun (i,x)=>(i,a.eval x)).toList=some arr:=by
       simpa using ha
      refine cM rfl ?_
      simp only[Instr.buildSlice,Sem.run_bind,run_underlying hu,Result.andThen_ok,(hT e de oB).run_sizeOf w,yD,if_false]
      by_cases h0:n*de.size=0
      ·simp only[h0,if_true,Sem.run_bind,Sem.run_pure,Result.andThen_ok]
       have QE:Instr.fill (fun i=>some (i*de.size,de.size)) ((Array.range 0).map ((#[]:Array Value)[·%(#[]:Array Value).size]!)) (parts.map fun (i,x)=>(i,a.eval x)).toList=some arr:=by
        have C3:∀f:Nat→Value,(Array.range 0).map f = #[]:=fun f=>by simp
        rw[←PH,h0,C3,C3]
       rw[QE]
       rfl
      ·simp only[h0,if_false,Sem.run_bind,hz,Sem.run_pure,Result.andThen_ok]
       rw[PH]
       rfl
     ·cases aq
   ·cases aq
  ·cases aq
 ·cases aq
end
end Go.Proofs.YtllmkadmohkbfaaGreatDoor.Sym
