/- Lemmas for the statements of this seat. -/
import Derived.Test.YtnjhplhbmapclaaGreatDoorWSymE
namespace Go.Proofs.YtnjhplhbmapclaaGreatDoor.Sym
open Go Go.RowKit
section
variable {P:Program} {T:gi} {a:Act} {w:World} {β:Nat→Option Nat} {L I:Nat→Prop} {aw:aD} {ρ:Operand→Option EV} {h:Hint} {res:jv}
variable {dst:Option Tmp} {ty:TypeId} {pos:String} {after:Array Edge} {guard:Option (Nat×Bool)}
theorem bn{o:Oper}{s:Sem Value}{v:Value}{w':World}(he:execOp a.eval o=(do pure (.value (←s)):Sem Next))(hs:s.run P w = .ok v w'):(execOp a.eval o).run P w = .ok (.value v) w':=by
 rw[he];simp[hs]
theorem br{e:EV}(h:dc e=some res):res=⟨e,none,[]⟩:=by injection h with h;exact h.symm
theorem yQ{x:Operand}(hp:rW a w β L I aw ρ)(ai:bk T aw dst (.move x) ρ h=some res):bJ P ⟨dst,.move x,ty,pos,after,guard⟩ a β L I w res:=by
 simp only[bk] at ai
 split at ai
 ·rename_i e he;rw[br ai];exact bJ.pure rfl (hp.ev x e he)
 ·cases ai
theorem vX{x:Operand}(hp:rW a w β L I aw ρ)(ai:bk T aw dst (.assign x) ρ h=some res):bJ P ⟨dst,.assign x,ty,pos,after,guard⟩ a β L I w res:=by
 simp only[bk] at ai
 split at ai
 ·rw[br ai];exact bJ.pure (e := .pv .fX) rfl Rd.fX
 ·split at ai
  ·rename_i e he;rw[br ai];exact bJ.pure rfl (hp.ev x e he)
  ·cases ai
theorem aV.At{cs:List PV}{us:List Value}(h:aV I w cs us):aV I w (cs.map At) us:=by
 refine⟨by simpa using h.1,fun j c u hc hu => ?_⟩
 rw[List.getElem?_map] at hc
 cases hj:cs[j]? with
 |none=>simp[hj] at hc
 |some p =>
  simp[hj] at hc
  obtain⟨h1,h2⟩:=h.2 j p u hj hu
  subst hc
  cases p<;>first|exact⟨h1,h2⟩|skip
  cases h2
  exact⟨rfl,.nil _ _⟩
theorem aV.eE{d:TD}{us:List Value}(h:aV I w d.zero us)(hh:Hint):aV I w (eE hh d) us:=by
 unfold Sym.eE
 split
 ·exact h
 ·exact h.At
theorem Bn(hh:Hint)(d:TD):(eE hh d).length=d.zero.length:=by
 unfold eE
 split<;>simp
theorem yR{c x y:Operand}(hp:rW a w β L I aw ρ)(ai:bk T aw dst (.pick c x y) ρ h=some res)(bj:bV res.ob):bJ P ⟨dst,.pick c x y,ty,pos,after,guard⟩ a β L I w res:=by
 simp only[bk] at ai
 have key:∀(t:Bool) (e:EV),ρ c=some (.pv (.bool t))→ρ (bif t then x else y)=some e→(execOp a.eval ⟨dst,.pick c x y,ty,pos,after,guard⟩).run P w = .ok (.value (a.eval (bif t then x else y))) w:=by
  intro t e hc _
  have hb:=hp.ev c _ hc
  have cQ:a.eval c = .bool t:=by
   generalize a.eval c=v at hb
   cases hb;rfl
  simp only[execOp,cQ]
  cases t<;>simp[asBool]
 split at ai
 ·rename_i t d hc
  split at ai
  ·rename_i e he
   injection ai with ai;subst ai
   have ht:t=d:=bj
   subst ht
   exact bJ.pure (key t e hc he) (hp.ev _ e he)
  ·cases ai
 ·rename_i t hc
  split at ai
  ·rename_i e he
   injection ai with ai;subst ai
   exact bJ.pure (key t e hc he) (hp.ev _ e he)
  ·cases ai
 ·cases ai
theorem xk{t:TypeId}(hT:jh P T)(hp:rW a w β L I aw ρ)(ai:bk T aw dst (.alloc t) ρ h=some res):bJ P ⟨dst,.alloc t,ty,pos,after,guard⟩ a β L I w res:=by
 simp only[bk] at ai
 split at ai
 ·rename_i d r hd
  injection ai with ai;subst ai
  obtain⟨z,hz,_,_,hc⟩:=(hT t d hd).lf w
  refine⟨_,_,?_,ow.new (el:=t) (arr:=z.cells) hp.lb hp.ib (fun j e he=>by
   obtain⟨u,h1,h2,h3⟩:=((hc I w).eE h).mw (β:=β) (L:=L) j e he
   exact⟨u,by simpa using h1,h2,h3⟩) (.inl ⟨rfl,rfl⟩)⟩
  simp[execOp,Instr.alloc,hz,newVar,newRow]
 ·cases ai
theorem Bo{t:TypeId}{x:Operand}(hp:rW a w β L I aw ρ)(ai:bk T aw dst (.box t x) ρ h=some res):bJ P ⟨dst,.box t x,ty,pos,after,guard⟩ a β L I w res:=by
 simp only[bk] at ai
 split at ai
 ·rename_i e r he
  split at ai
  ·rename_i cs rX
   injection ai with ai;subst ai
   refine⟨_,_,?_,ow.new (el:=t) (arr:=(a.eval x).cells) hp.lb hp.ib (fun j c hj=>iN (hp.ev x e he) rX j c hj) (.inl ⟨rfl,rfl⟩)⟩
   simp[execOp,Instr.box,newVar,newRow]
  ·cases ai
 ·cases ai
theorem xl{t:TypeId}{parts:Array (Nat×Operand)}(hT:jh P T)(hp:rW a w β L I aw ρ)(ai:bk T aw dst (.build t parts) ρ h=some res):bJ P ⟨dst,.build t parts,ty,pos,after,guard⟩ a β L I w res:=by
 simp only[bk] at ai
 split at ai
 ·rename_i d ps hd jG
  split at ai
  ·rename_i fs hk
   split at ai
   ·rename_i cs rX
    rw[br ai]
    have sV:=kW hp.ev parts.toList ps jG
    obtain⟨v,h1,h2⟩:=qt (hT t d hd) hk w (vs:=parts.map fun (i,x)=>(i,a.eval x)) (by simpa using sV) (zs:=eE h d) (fun us uH=>uH.eE h) rX
    exact bJ.pure (e := .pv (.agg cs)) (bn rfl h1) h2
   ·cases ai
  ·cases ai
 ·rename_i d hd jG
  split at ai
  ·rename_i fs ps hk Kq
   split at ai
   ·rename_i cs rX
    rw[br ai]
    have sV:=n8 hp.ev parts.toList ps Kq
    obtain⟨arr,h1,h2,h3⟩:=pd (hT t d hd) hk w (R:=fun f u=>u.oneCell'=true∧RE β L I w f.ev u) (fun c u ho hr=>⟨hr.fw ho,hr⟩) (vs:=parts.map fun (i,x)=>(i,a.eval x)) (by simpa using sV) (zs:=eE h d) (fun us uH=>uH.eE h) rX
    refine bJ.pure (e := .jF cs) (bn rfl h1) ⟨arr,rfl,by simpa using h2.symm,fun j f u hf hu => ?_⟩
    obtain⟨g1,g2⟩:=h3 j f u hf (by simpa using hu)
    cases f with
    |pv p=>exact⟨PV.gE g2 g1,g2⟩
    |row r off len sz=>exact g2
   ·cases ai
  ·cases ai
 ·cases ai
theorem xm{α:Type}(z:List α):∀(n j:Nat),((List.replicate n z).flatten)[j]? = if j<n*z.length then z[j%z.length]? else none
 |0,j=>by simp
 |n+1,j=>by
  rw[List.replicate_succ,List.flatten_cons,List.getElem?_append,xm z n]
  have hm:(n+1)*z.length=z.length+n*z.length:=by rw[Nat.succ_mul];omega
  by_cases h1:j<z.length
  ·rw[if_pos h1,if_pos (by omega),Nat.mod_eq_of_lt h1]
  ·rw[if_neg h1]
   have h2:j%z.length=(j-z.length)%z.length:=by
    rw[Nat.mod_eq_sub_mod (by omega)]
   rw[h2]
   by_cases h3:j<(n+1)*z.length
   ·rw[if_pos h3,if_pos (by omega)]
   ·rw[if_neg h3,if_neg (by omega)]
theorem sW{cs:List PV}{us:Array Value}{I:Nat→Prop}(hc:aV I w cs us.toList)(n m:Nat)(hm:m=n*us.size)(hs:1≤us.size) :
  aV I w ((List.replicate n cs).flatten) ((Array.range m).map (us[·%us.size]!)).toList:=by
 have hl:cs.length=us.size:=by simpa using hc.1
 refine⟨by simp[hm,hl],fun j c u hj hu => ?_⟩
 rw[xm,hl] at hj
 simp only[Array.toList_map,Array.toList_range,List.getElem?_map] at hu
 by_cases JW:j<n*us.size
 ·rw[if_pos JW] at hj
  rw[List.getElem?_range (by omega)] at hu
  simp only[Option.map_some,Option.some.injEq] at hu
  have cS:j%us.size<us.size:=Nat.mod_lt _ (by omega)
  refine hc.2 _ c u hj ?_
  rw[←hu]
  simp[cS]
 ·rw[if_neg JW] at hj;cases hj
theorem qv{t:TypeId}{n:Nat}{parts:Array (Nat×Operand)}(hT:jh P T)(hp:rW a w β L I aw ρ)(ai:bk T aw dst (.buildSlice t n parts) ρ h=some res)(bj:bV res.ob) :
  bJ P ⟨dst,.buildSlice t n parts,ty,pos,after,guard⟩ a β L I w res:=by
 simp only[bk] at ai
 split at ai
 ·rename_i d ps r hd jG
  split at ai
  ·rename_i e hk
   split at ai
   ·rename_i de kp
    cases hb:(Nat.ble (n*de.size) 4096&&Nat.ble 1 de.size) with
    |false=>simp[hb] at ai
    |true =>
     simp only[hb,cond_true] at ai
     simp only[Bool.and_eq_true,Nat.ble_eq] at hb
     split at ai
     ·rename_i cs ob Kr
      have rX:lK (fun i=>some (i*de.size,de.size)) ((List.replicate n (eE h de)).flatten) ps=some cs:=by
       obtain⟨k1,k2⟩:=xj Kr
       split at ai
       ·rw[k2 _ _ _ rfl] at k1;exact k1 True.intro
       ·injection ai with ai;subst ai;exact k1 bj
      obtain⟨u,hu,_,hf⟩:=(hT t d hd).under
      rw[hk] at hf
      have hf:u = .slice e:=hf
      subst hf
      obtain⟨z,hz,_,xh,hc⟩:=(hT e de kp).lf w
      have sV:=kW hp.ev parts.toList ps jG
      have hzero:=sW (w:=w) ((hc I w).eE h) n (n*de.size) (by rw[xh]) (by omega)
      obtain⟨arr,ha,hr⟩:=ov (fun i=>some (i*de.size,de.size)) ps _ _ _ cs sV hzero rX
      have hlen:arr.size=n*de.size:=by
       have h2:cs.length=n*de.size:=by
        have GC:=(hT e de kp).Cr
        have:∀(qs:List (Nat×PV)) (c o:List PV),lK (fun i=>some (i*de.size,de.size)) c qs=some o→o.length=c.length:=by
         intro qs
         induction qs with
         |nil=>intro c o h;injection h with h;rw[h]
         |cons q qs ih =>
          intro c o h
          obtain⟨i,p⟩:=q
          simp only[lK] at h
          cases cQ:(Nat.beq p.cells.length de.size&&Nat.ble (i*de.size+p.cells.length) c.length && !p.mI) with
          |false=>simp[cQ] at h
          |true =>
           simp only[cQ,cond_true] at h
           simp only[Bool.and_eq_true,Nat.ble_eq] at cQ
           rw[ih _ _ h,ou _ _ _ cQ.1.2]
        rw[this _ _ _ rX]
        simp[Bn,GC]
       have:=hr.1
       simp at this;omega
      have sX:ow β L I w (some r) res (.slice (some ⟨w.heap.size,0,none⟩) n n) (w.alloc (.cells arr e)):=by
       split at ai
       ·rename_i xs
        injection ai with ai;subst ai
        obtain⟨g1,g2,g3⟩:=bj
        refine ow.EH hp.ib (fun j c hj => ?_) g1 g2 g3
        have cS:j<arr.toList.length:=by rw[←hr.1];exact(List.getElem?_eq_some_iff.1 hj).1
        have xn:=List.getElem?_eq_getElem cS
        exact⟨arr.toList[j],by simp,hr.2 j c _ hj xn⟩
       ·injection ai with ai;subst ai
        exact ow.new (el:=e) (arr:=arr) hp.lb hp.ib (fun j c hj=>by
         obtain⟨u,h1,h2,h3⟩:=hr.mw (β:=β) (L:=L) j c hj
         exact⟨u,by simpa using h1,h2,h3⟩) (.inr ⟨n,de.size,rfl,rfl,by omega⟩)
      refine⟨_,_,?_,sX⟩
      have vY:¬(n*de.size>2^24):=by omega
      have FW:Instr.fill (fun i=>some (i*de.size,de.size)) ((Array.range (n*de.size)).map (z.cells[·%z.cells.size]!)) (parts.map fun (i,x)=>(i,a.eval x)).toList=some arr:=by
       simpa using ha
      refine bn rfl ?_
      simp only[Instr.buildSlice,Sem.run_bind,run_underlying hu,Result.andThen_ok,(hT e de kp).run_sizeOf w,vY,if_false]
      by_cases h0:n*de.size=0
      ·simp only[h0,if_true,Sem.run_bind,Sem.run_pure,Result.andThen_ok]
       have GD:Instr.fill (fun i=>some (i*de.size,de.size)) ((Array.range 0).map ((#[]:Array Value)[·%(#[]:Array Value).size]!)) (parts.map fun (i,x)=>(i,a.eval x)).toList=some arr:=by
        have B5:∀f:Nat→Value,(Array.range 0).map f = #[]:=fun f=>by simp
        rw[←FW,h0,B5,B5]
       rw[GD]
       rfl
      ·simp only[h0,if_false,Sem.run_bind,hz,Sem.run_pure,Result.andThen_ok]
       rw[FW]
       rfl
     ·cases ai
   ·cases ai
  ·cases ai
 ·cases ai
end
end Go.Proofs.YtnjhplhbmapclaaGreatDoor.Sym
