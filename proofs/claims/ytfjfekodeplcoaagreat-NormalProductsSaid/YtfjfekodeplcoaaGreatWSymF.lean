/- Lemmas for the statements of this seat. -/
import Derived.Test.YtfjfekodeplcoaaGreatWSymE
namespace Go.Proofs.YtfjfekodeplcoaaGreat.Sym
open Go Go.RowKit
section
variable {P:Program} {T:ja} {a:Act} {w:World} {β:Nat→Option Nat} {L I:Nat→Prop} {sto:aG} {ρ:Operand→Option EV} {h:Hint} {res:mU}
variable {dst:Option Tmp} {ty:TypeId} {pos:String} {after:Array Edge} {guard:Option (Nat×Bool)}
theorem cx{o:Oper}{s:Sem Value}{v:Value}{w':World}(he:execOp a.eval o=(do pure (.value (←s)):Sem Next))(hs:s.run P w = .ok v w'):(execOp a.eval o).run P w = .ok (.value v) w':=by
 rw[he];simp[hs]
theorem cz{e:EV}(h:fb e=some res):res=⟨e,none,[]⟩:=by injection h with h;exact h.symm
theorem Ey{x:Operand}(hp:xu a w β L I sto ρ)(aw:cr T sto dst (.move x) ρ h=some res):cX P ⟨dst,.move x,ty,pos,after,guard⟩ a β L I w res:=by
 simp only[cr] at aw
 split at aw
 ·rename_i e he;rw[cz aw];exact cX.pure rfl (hp.ev x e he)
 ·cases aw
theorem BF{x:Operand}(hp:xu a w β L I sto ρ)(aw:cr T sto dst (.assign x) ρ h=some res):cX P ⟨dst,.assign x,ty,pos,after,guard⟩ a β L I w res:=by
 simp only[cr] at aw
 split at aw
 ·rw[cz aw];exact cX.pure (e := .pv .fa) rfl Rd.fa
 ·split at aw
  ·rename_i e he;rw[cz aw];exact cX.pure rfl (hp.ev x e he)
  ·cases aw
theorem bT.FL{cs:List PV}{us:List Value}(h:bT I w cs us):bT I w (cs.map FL) us:=by
 refine⟨by simpa using h.1,fun j c u hc hu => ?_⟩
 rw[List.getElem?_map] at hc
 cases hj:cs[j]? with
 |none=>simp[hj] at hc
 |some p =>
  simp[hj] at hc
  obtain⟨h1,h2⟩:=h.2 j p u hj hu
  subst hc
  cases p<;>first|exact⟨h1,h2⟩|skip
  cases h2
  exact⟨rfl,.nil _ _⟩
theorem bT.iu{d:TD}{us:List Value}(h:bT I w d.zero us)(hh:Hint):bT I w (iu hh d) us:=by
 unfold Sym.iu
 split
 ·exact h
 ·exact h.FL
theorem GF(hh:Hint)(d:TD):(iu hh d).length=d.zero.length:=by
 unfold iu
 split<;>simp
theorem Ez{c x y:Operand}(hp:xu a w β L I sto ρ)(aw:cr T sto dst (.pick c x y) ρ h=some res)(bK:cW res.ob):cX P ⟨dst,.pick c x y,ty,pos,after,guard⟩ a β L I w res:=by
 simp only[cr] at aw
 have key:∀(t:Bool) (e:EV),ρ c=some (.pv (.bool t))→ρ (bif t then x else y)=some e→(execOp a.eval ⟨dst,.pick c x y,ty,pos,after,guard⟩).run P w = .ok (.value (a.eval (bif t then x else y))) w:=by
  intro t e hc _
  have hb:=hp.ev c _ hc
  have cI:a.eval c = .bool t:=by
   generalize a.eval c=v at hb
   cases hb;rfl
  simp only[execOp,cI]
  cases t<;>simp[asBool]
 split at aw
 ·rename_i t d hc
  split at aw
  ·rename_i e he
   injection aw with aw;subst aw
   have ht:t=d:=bK
   subst ht
   exact cX.pure (key t e hc he) (hp.ev _ e he)
  ·cases aw
 ·rename_i t hc
  split at aw
  ·rename_i e he
   injection aw with aw;subst aw
   exact cX.pure (key t e hc he) (hp.ev _ e he)
  ·cases aw
 ·cases aw
theorem CR{t:TypeId}(hT:lH P T)(hp:xu a w β L I sto ρ)(aw:cr T sto dst (.alloc t) ρ h=some res):cX P ⟨dst,.alloc t,ty,pos,after,guard⟩ a β L I w res:=by
 simp only[cr] at aw
 split at aw
 ·rename_i d r hd
  injection aw with aw;subst aw
  obtain⟨z,hz,_,_,hc⟩:=(hT t d hd).mg w
  refine⟨_,_,?_,qi.new (el:=t) (arr:=z.cells) hp.lb hp.ib (fun j e he=>by
   obtain⟨u,h1,h2,h3⟩:=((hc I w).iu h).jc (β:=β) (L:=L) j e he
   exact⟨u,by simpa using h1,h2,h3⟩) (.inl ⟨rfl,rfl⟩)⟩
  simp[execOp,Instr.alloc,hz,newVar,newRow]
 ·cases aw
theorem GG{t:TypeId}{x:Operand}(hp:xu a w β L I sto ρ)(aw:cr T sto dst (.box t x) ρ h=some res):cX P ⟨dst,.box t x,ty,pos,after,guard⟩ a β L I w res:=by
 simp only[cr] at aw
 split at aw
 ·rename_i e r he
  split at aw
  ·rename_i cs ot
   injection aw with aw;subst aw
   refine⟨_,_,?_,qi.new (el:=t) (arr:=(a.eval x).cells) hp.lb hp.ib (fun j c hj=>iF (hp.ev x e he) ot j c hj) (.inl ⟨rfl,rfl⟩)⟩
   simp[execOp,Instr.box,newVar,newRow]
  ·cases aw
 ·cases aw
theorem CS{t:TypeId}{parts:Array (Nat×Operand)}(hT:lH P T)(hp:xu a w β L I sto ρ)(aw:cr T sto dst (.build t parts) ρ h=some res):cX P ⟨dst,.build t parts,ty,pos,after,guard⟩ a β L I w res:=by
 simp only[cr] at aw
 split at aw
 ·rename_i d ps hd jf
  split at aw
  ·rename_i fs hk
   split at aw
   ·rename_i cs ot
    rw[cz aw]
    have qj:=pj hp.ev parts.toList ps jf
    obtain⟨v,h1,h2⟩:=vF (hT t d hd) hk w (vs:=parts.map fun (i,x)=>(i,a.eval x)) (by simpa using qj) (zs:=iu h d) (fun us xW=>xW.iu h) ot
    exact cX.pure (e := .pv (.agg cs)) (cx rfl h1) h2
   ·cases aw
  ·cases aw
 ·rename_i d hd jf
  split at aw
  ·rename_i fs ps hk Q1
   split at aw
   ·rename_i cs ot
    rw[cz aw]
    have qj:=tc hp.ev parts.toList ps Q1
    obtain⟨arr,h1,h2,h3⟩:=uA (hT t d hd) hk w (R:=fun f u=>u.oneCell'=true∧RE β L I w f.ev u) (fun c u ho hr=>⟨hr.iN ho,hr⟩) (vs:=parts.map fun (i,x)=>(i,a.eval x)) (by simpa using qj) (zs:=iu h d) (fun us xW=>xW.iu h) ot
    refine cX.pure (e := .dV cs) (cx rfl h1) ⟨arr,rfl,by simpa using h2.symm,fun j f u hf hu => ?_⟩
    obtain⟨g1,g2⟩:=h3 j f u hf (by simpa using hu)
    cases f with
    |pv p=>exact⟨PV.gO g2 g1,g2⟩
    |row r off len sz=>exact g2
    |cv j len sz=>exact g2
   ·cases aw
  ·cases aw
 ·cases aw
theorem CT{α:Type}(z:List α):∀(n j:Nat),((List.replicate n z).flatten)[j]? = if j<n*z.length then z[j%z.length]? else none
 |0,j=>by simp
 |n+1,j=>by
  rw[List.replicate_succ,List.flatten_cons,List.getElem?_append,CT z n]
  have hm:(n+1)*z.length=z.length+n*z.length:=by rw[Nat.succ_mul];omega
  by_cases h1:j<z.length
  ·rw[if_pos h1,if_pos (by omega),Nat.mod_eq_of_lt h1]
  ·rw[if_neg h1]
   have h2:j%z.length=(j-z.length)%z.length:=by
    rw[Nat.mod_eq_sub_mod (by omega)]
   rw[h2]
   by_cases h3:j<(n+1)*z.length
   ·rw[if_pos h3,if_pos (by omega)]
   ·rw[if_neg h3,if_neg (by omega)]
theorem yy{cs:List PV}{us:Array Value}{I:Nat→Prop}(hc:bT I w cs us.toList)(n m:Nat)(hm:m=n*us.size)(hs:1≤us.size) :
  bT I w ((List.replicate n cs).flatten) ((Array.range m).map (us[·%us.size]!)).toList:=by
 have hl:cs.length=us.size:=by simpa using hc.1
 refine⟨by simp[hm,hl],fun j c u hj hu => ?_⟩
 rw[CT,hl] at hj
 simp only[Array.toList_map,Array.toList_range,List.getElem?_map] at hu
 by_cases Qw:j<n*us.size
 ·rw[if_pos Qw] at hj
  rw[List.getElem?_range (by omega)] at hu
  simp only[Option.map_some,Option.some.injEq] at hu
  have cQ:j%us.size<us.size:=Nat.mod_lt _ (by omega)
  refine hc.2 _ c u hj ?_
  rw[←hu]
  simp[cQ]
 ·rw[if_neg Qw] at hj;cases hj
theorem vH{t:TypeId}{n:Nat}{parts:Array (Nat×Operand)}(hT:lH P T)(hp:xu a w β L I sto ρ)(aw:cr T sto dst (.buildSlice t n parts) ρ h=some res)(bK:cW res.ob) :
  cX P ⟨dst,.buildSlice t n parts,ty,pos,after,guard⟩ a β L I w res:=by
 simp only[cr] at aw
 split at aw
 ·rename_i d ps r hd jf
  split at aw
  ·rename_i e hk
   split at aw
   ·rename_i de lI
    cases hb:(Nat.ble (n*de.size) 4096&&Nat.ble 1 de.size) with
    |false=>simp[hb] at aw
    |true =>
     simp only[hb,cond_true] at aw
     simp only[Bool.and_eq_true,Nat.ble_eq] at hb
     split at aw
     ·rename_i cs ob Q2
      have ot:qg (fun i=>some (i*de.size,de.size)) ((List.replicate n (iu h de)).flatten) ps=some cs:=by
       obtain⟨k1,k2⟩:=CQ Q2
       split at aw
       ·rw[k2 _ _ _ rfl] at k1;exact k1 True.intro
       ·injection aw with aw;subst aw;exact k1 bK
      obtain⟨u,hu,_,hf⟩:=(hT t d hd).under
      rw[hk] at hf
      have hf:u = .slice e:=hf
      subst hf
      obtain⟨z,hz,_,ta,hc⟩:=(hT e de lI).mg w
      have qj:=pj hp.ev parts.toList ps jf
      have hzero:=yy (w:=w) ((hc I w).iu h) n (n*de.size) (by rw[ta]) (by omega)
      obtain⟨arr,ha,hr⟩:=tB (fun i=>some (i*de.size,de.size)) ps _ _ _ cs qj hzero ot
      have hlen:arr.size=n*de.size:=by
       have h2:cs.length=n*de.size:=by
        have HN:=(hT e de lI).HG
        have:∀(qs:List (Nat×PV)) (c o:List PV),qg (fun i=>some (i*de.size,de.size)) c qs=some o→o.length=c.length:=by
         intro qs
         induction qs with
         |nil=>intro c o h;injection h with h;rw[h]
         |cons q qs ih =>
          intro c o h
          obtain⟨i,p⟩:=q
          simp only[qg] at h
          cases cI:(Nat.beq p.cells.length de.size&&Nat.ble (i*de.size+p.cells.length) c.length && !p.pD) with
          |false=>simp[cI] at h
          |true =>
           simp only[cI,cond_true] at h
           simp only[Bool.and_eq_true,Nat.ble_eq] at cI
           rw[ih _ _ h,qf _ _ _ cI.1.2]
        rw[this _ _ _ ot]
        simp[GF,HN]
       have:=hr.1
       simp at this;omega
      have pE:qi β L I w (some r) res (.slice (some ⟨w.heap.size,0,none⟩) n n) (w.alloc (.cells arr e)):=by
       split at aw
       ·rename_i xs
        injection aw with aw;subst aw
        obtain⟨g1,g2,g3⟩:=bK
        refine qi.Kr hp.ib (fun j c hj => ?_) g1 g2 g3
        have cQ:j<arr.toList.length:=by rw[←hr.1];exact(List.getElem?_eq_some_iff.1 hj).1
        have wN:=List.getElem?_eq_getElem cQ
        exact⟨arr.toList[j],by simp,hr.2 j c _ hj wN⟩
       ·injection aw with aw;subst aw
        exact qi.new (el:=e) (arr:=arr) hp.lb hp.ib (fun j c hj=>by
         obtain⟨u,h1,h2,h3⟩:=hr.jc (β:=β) (L:=L) j c hj
         exact⟨u,by simpa using h1,h2,h3⟩) (.inr ⟨n,de.size,rfl,rfl,by omega⟩)
      refine⟨_,_,?_,pE⟩
      have fP:¬(n*de.size>2^24):=by omega
      have AZ:Instr.fill (fun i=>some (i*de.size,de.size)) ((Array.range (n*de.size)).map (z.cells[·%z.cells.size]!)) (parts.map fun (i,x)=>(i,a.eval x)).toList=some arr:=by
       simpa using ha
      refine cx rfl ?_
      simp only[Instr.buildSlice,Sem.run_bind,run_underlying hu,Result.andThen_ok,(hT e de lI).run_sizeOf w,fP,if_false]
      by_cases h0:n*de.size=0
      ·simp only[h0,if_true,Sem.run_bind,Sem.run_pure,Result.andThen_ok]
       have Mv:Instr.fill (fun i=>some (i*de.size,de.size)) ((Array.range 0).map ((#[]:Array Value)[·%(#[]:Array Value).size]!)) (parts.map fun (i,x)=>(i,a.eval x)).toList=some arr:=by
        have J9:∀f:Nat→Value,(Array.range 0).map f = #[]:=fun f=>by simp
        rw[←AZ,h0,J9,J9]
       rw[Mv]
       rfl
      ·simp only[h0,if_false,Sem.run_bind,hz,Sem.run_pure,Result.andThen_ok]
       rw[AZ]
       rfl
     ·cases aw
   ·cases aw
  ·cases aw
 ·cases aw
end
end Go.Proofs.YtfjfekodeplcoaaGreat.Sym
