/- Lemmas for the statements of this seat. -/
import Derived.Test.YtneklnlpgfeplaaGreatW4
namespace Go.Proofs.YtneklnlpgfeplaaGreat.Sym
open Go Go.RowKit
section
variable {P:Program} {T:ja} {a:Act} {w:World} {β:Nat→Option Nat} {L I:Nat→Prop} {aP:aY} {ρ:Operand→Option EV} {h:Hint} {res:nX}
variable {dst:Option Tmp} {ty:TypeId} {pos:String} {after:Array Edge} {guard:Option (Nat×Bool)}
theorem cJ{o:Oper}{s:Sem Value}{v:Value}{w':World}(he:execOp a.eval o=(do pure (.value (←s)):Sem Next))(hs:s.run P w = .ok v w'):(execOp a.eval o).run P w = .ok (.value v) w':=by rw[he];simp[hs]
theorem cF{e:EV}(h:fz e=some res):res=⟨e,none,[]⟩:=by injection h with h;exact h.symm
theorem Ge{x:Operand}(hp:xZ a w β L I aP ρ)(aJ:cI T aP dst (.move x) ρ h=some res):dw P ⟨dst,.move x,ty,pos,after,guard⟩ a β L I w res:=by
 simp only[cI] at aJ;split at aJ
 ·rename_i e he;rw[cF aJ];exact dw.pure rfl (hp.ev x e he)
 ·cases aJ
theorem Dr{x:Operand}(hp:xZ a w β L I aP ρ)(aJ:cI T aP dst (.assign x) ρ h=some res):dw P ⟨dst,.assign x,ty,pos,after,guard⟩ a β L I w res:=by
 simp only[cI] at aJ;split at aJ
 ·rw[cF aJ];exact dw.pure (e := .pv .aT) rfl Rd.aT
 ·split at aJ
  ·rename_i e he;rw[cF aJ];exact dw.pure rfl (hp.ev x e he)
  ·cases aJ
theorem bO.HL{cs:List PV}{us:List Value}(h:bO I w cs us):bO I w (cs.map HL) us:=by
 refine⟨by simpa using h.1,fun j c u hc hu => ?_⟩;rw[abR] at hc;cases hj:cs[j]? with
 |none=>simp[hj] at hc
 |some p =>
  simp[hj] at hc;obtain⟨h1,h2⟩:=h.2 j p u hj hu;subst hc;cases p<;>first|exact⟨h1,h2⟩|skip
  cases h2;exact⟨rfl,.nil _ _⟩
theorem bO.gO{d:TD}{us:List Value}(h:bO I w d.zero us)(hh:Hint):bO I w (gO hh d) us:=by
 unfold Sym.gO;split
 ·exact h
 ·exact h.HL
theorem IE(hh:Hint)(d:TD):(gO hh d).length=d.zero.length:=by unfold gO;split<;>simp
theorem Gf{c x y:Operand}(hp:xZ a w β L I aP ρ)(aJ:cI T aP dst (.pick c x y) ρ h=some res)(cf:dW res.ob):dw P ⟨dst,.pick c x y,ty,pos,after,guard⟩ a β L I w res:=by
 simp only[cI] at aJ;have key:∀(t:Bool) (e:EV),ρ c=some (.pv (.bool t))→ρ (bif t then x else y)=some e→(execOp a.eval ⟨dst,.pick c x y,ty,pos,after,guard⟩).run P w = .ok (.value (a.eval (bif t then x else y))) w:=by
  intro t e hc _;have hb:=hp.ev c _ hc;have fc:a.eval c = .bool t:=by generalize a.eval c=v at hb;cases hb;rfl
  simp only[execOp,fc];cases t<;>simp[asBool]
 split at aJ
 ·rename_i t d hc;split at aJ
  ·rename_i e he;injection aJ with aJ;subst aJ
   have ht:t=d:=cf;subst ht;exact dw.pure (key t e hc he) (hp.ev _ e he)
  ·cases aJ
 ·rename_i t hc;split at aJ
  ·rename_i e he;injection aJ with aJ;subst aJ
   exact dw.pure (key t e hc he) (hp.ev _ e he)
  ·cases aJ
 ·cases aJ
theorem EA{t:TypeId}(hT:mm P T)(hp:xZ a w β L I aP ρ)(aJ:cI T aP dst (.alloc t) ρ h=some res):dw P ⟨dst,.alloc t,ty,pos,after,guard⟩ a β L I w res:=by
 simp only[cI] at aJ;split at aJ
 ·rename_i d r hd;injection aJ with aJ;subst aJ
  obtain⟨z,hz,_,_,hc⟩:=(hT t d hd).oD w;refine⟨_,_,?_,vf.new (el:=t) (arr:=z.cells) hp.lb hp.ib (fun j e he=>by obtain⟨u,h1,h2,h3⟩:=((hc I w).gO h).oe (β:=β) (L:=L) j e he;exact⟨u,by simpa using h1,h2,h3⟩) (.inl ⟨rfl,rfl⟩)⟩
  simp[execOp,Instr.alloc,hz,newVar,newRow]
 ·cases aJ
theorem IF{t:TypeId}{x:Operand}(hp:xZ a w β L I aP ρ)(aJ:cI T aP dst (.box t x) ρ h=some res):dw P ⟨dst,.box t x,ty,pos,after,guard⟩ a β L I w res:=by
 simp only[cI] at aJ;split at aJ
 ·rename_i e r he;split at aJ
  ·rename_i cs vO;injection aJ with aJ;subst aJ
   refine⟨_,_,?_,vf.new (el:=t) (arr:=(a.eval x).cells) hp.lb hp.ib (fun j c hj=>mX (hp.ev x e he) vO j c hj) (.inl ⟨rfl,rfl⟩)⟩;simp[execOp,Instr.box,newVar,newRow]
  ·cases aJ
 ·cases aJ
theorem EB{t:TypeId}{parts:Array (Nat×Operand)}(hT:mm P T)(hp:xZ a w β L I aP ρ)(aJ:cI T aP dst (.build t parts) ρ h=some res):dw P ⟨dst,.build t parts,ty,pos,after,guard⟩ a β L I w res:=by
 simp only[cI] at aJ;split at aJ
 ·rename_i d ps hd lB;split at aJ
  ·rename_i fs hk;split at aJ
   ·rename_i cs vO;rw[cF aJ];have vg:=mY hp.ev parts.toList ps lB;obtain⟨v,h1,h2⟩:=xm (hT t d hd) hk w (vs:=parts.map fun (i,x)=>(i,a.eval x)) (by simpa using vg) (zs:=gO h d) (fun us zR=>zR.gO h) vO;exact dw.pure (e := .pv (.agg cs)) (cJ rfl h1) h2
   ·cases aJ
  ·rename_i n el hk;split at aJ
   ·rename_i de nL;split at aJ
    ·rename_i cs vO;rw[cF aJ];have vg:=mY hp.ev parts.toList ps lB;obtain⟨v,h1,h2⟩:=yR (hT t d hd) hk (hT el de nL) w (vs:=parts.map fun (i,x)=>(i,a.eval x)) (by simpa using vg) (zs:=gO h d) (fun us zR=>zR.gO h) vO;exact dw.pure (e := .pv (.agg cs)) (cJ rfl h1) h2
    ·cases aJ
   ·cases aJ
  ·cases aJ
 ·rename_i d hd lB;split at aJ
  ·rename_i fs ps hk Va;split at aJ
   ·rename_i cs vO;rw[cF aJ];have vg:=uD hp.ev parts.toList ps Va;obtain⟨arr,h1,h2,h3⟩:=vY (hT t d hd) hk w (R:=fun f u=>u.oneCell'=true∧RE β L I w f.ev u) (fun c u ho hr=>⟨hr.jt ho,hr⟩) (vs:=parts.map fun (i,x)=>(i,a.eval x)) (by simpa using vg) (zs:=gO h d) (fun us zR=>zR.gO h) vO;refine dw.pure (e := .lz cs) (cJ rfl h1) ⟨arr,rfl,by simpa using h2.symm,fun j f u hf hu => ?_⟩;obtain⟨g1,g2⟩:=h3 j f u hf (by simpa using hu);cases f with
    |pv p=>exact⟨PV.kT g2 g1,g2⟩
    |row r off len sz=>exact g2
    |ig j len sz=>exact g2
   ·cases aJ
  ·cases aJ
 ·cases aJ
theorem EC{α:Type}(z:List α):∀(n j:Nat),((List.replicate n z).flatten)[j]? = if j<n*z.length then z[j%z.length]? else none
 |0,j=>by simp
 |n+1,j=>by
  rw[List.replicate_succ,acM,acC,EC z n];have hm:(n+1)*z.length=z.length+n*z.length:=by rw[adI];omega
  by_cases h1:j<z.length
  ·rw[ac7 h1,ac7 (by omega),acg h1]
  ·rw[ac3 h1];have h2:j%z.length=(j-z.length)%z.length:=by
    rw[Nat.mod_eq_sub_mod (by omega)]
   rw[h2];by_cases h3:j<(n+1)*z.length
   ·rw[ac7 h3,ac7 (by omega)]
   ·rw[ac3 h3,ac3 (by omega)]
theorem zS{cs:List PV}{us:Array Value}{I:Nat→Prop}(hc:bO I w cs us.toList)(n m:Nat)(hm:m=n*us.size)(hs:1≤us.size) :
  bO I w ((List.replicate n cs).flatten) ((Array.range m).map (us[·%us.size]!)).toList:=by
 have hl:cs.length=us.size:=by simpa using hc.1
 refine⟨by simp[hm,hl],fun j c u hj hu => ?_⟩;rw[EC,hl] at hj;simp only[Array.toList_map,Array.toList_range,List.getElem?_map] at hu;by_cases Uh:j<n*us.size
 ·rw[ac7 Uh] at hj;rw[adE (by omega)] at hu;simp only[Option.map_some,Option.some.injEq] at hu;have cT:j%us.size<us.size:=adB _ (by omega);refine hc.2 _ c u hj ?_;rw[←hu];simp[cT]
 ·rw[ac3 Uh] at hj;cases hj
theorem xo{t:TypeId}{n:Nat}{parts:Array (Nat×Operand)}(hT:mm P T)(hp:xZ a w β L I aP ρ)(aJ:cI T aP dst (.buildSlice t n parts) ρ h=some res)(cf:dW res.ob) :
  dw P ⟨dst,.buildSlice t n parts,ty,pos,after,guard⟩ a β L I w res:=by
 simp only[cI] at aJ;split at aJ
 ·rename_i d ps r hd lB;split at aJ
  ·rename_i e hk;split at aJ
   ·rename_i de nL;cases hb:(Nat.ble (n*de.size) 4096&&Nat.ble 1 de.size) with
    |false=>simp[hb] at aJ
    |true =>
     simp only[hb,cond_true] at aJ;simp only[Bool.and_eq_true,Nat.ble_eq] at hb;split at aJ
     ·rename_i cs ob Vb;have vO:oF (fun i=>some (i*de.size,de.size)) ((List.replicate n (gO h de)).flatten) ps=some cs:=by
       obtain⟨k1,k2⟩:=Ey Vb;split at aJ
       ·rw[k2 _ _ _ rfl] at k1;exact k1 True.intro
       ·injection aJ with aJ;subst aJ;exact k1 cf
      obtain⟨u,hu,_,hf⟩:=(hT t d hd).under;rw[hk] at hf;have hf:u = .slice e:=hf;subst hf;obtain⟨z,hz,_,yQ,hc⟩:=(hT e de nL).oD w;have vg:=mY hp.ev parts.toList ps lB;have hzero:=zS (w:=w) ((hc I w).gO h) n (n*de.size) (by rw[yQ]) (by omega);obtain⟨arr,ha,hr⟩:=q7 (fun i=>some (i*de.size,de.size)) ps _ _ _ cs vg hzero vO;have hlen:arr.size=n*de.size:=by
       have h2:cs.length=n*de.size:=by
        have RS:=(hT e de nL).JK;have:∀(qs:List (Nat×PV)) (c o:List PV),oF (fun i=>some (i*de.size,de.size)) c qs=some o→o.length=c.length:=by
         intro qs
         induction qs with
         |nil=>intro c o h;injection h with h;rw[h]
         |cons q qs ih =>
          intro c o h;obtain⟨i,p⟩:=q;simp only[oF] at h;cases fc:(Nat.beq p.cells.length de.size&&Nat.ble (i*de.size+p.cells.length) c.length && !p.sJ) with
          |false=>simp[fc] at h
          |true =>simp only[fc,cond_true] at h;simp only[Bool.and_eq_true,Nat.ble_eq] at fc;rw[ih _ _ h,q6 _ _ _ fc.1.2]
        rw[this _ _ _ vO];simp[IE,RS]
       have:=hr.1;simp at this;omega
      have zT:vf β L I w (some r) res (.slice (some ⟨w.heap.size,0,none⟩) n n) (w.alloc (.cells arr e)):=by
       split at aJ
       ·rename_i xs;injection aJ with aJ;subst aJ
        obtain⟨g1,g2,g3⟩:=cf;refine vf.MH hp.ib (fun j c hj => ?_) g1 g2 g3;have cT:j<arr.toList.length:=by rw[←hr.1];exact(abL.1 hj).1
        have Ds:=abJ cT;exact⟨arr.toList[j],by simp,hr.2 j c _ hj Ds⟩
       ·injection aJ with aJ;subst aJ
        exact vf.new (el:=e) (arr:=arr) hp.lb hp.ib (fun j c hj=>by obtain⟨u,h1,h2,h3⟩:=hr.oe (β:=β) (L:=L) j c hj;exact⟨u,by simpa using h1,h2,h3⟩) (.inr ⟨n,de.size,rfl,rfl,by omega⟩)
      refine⟨_,_,?_,zT⟩;have mo:¬(n*de.size>2^24):=by omega
      have Oc:Instr.fill (fun i=>some (i*de.size,de.size)) ((Array.range (n*de.size)).map (z.cells[·%z.cells.size]!)) (parts.map fun (i,x)=>(i,a.eval x)).toList=some arr:=by simpa using ha
      refine cJ rfl ?_;simp only[Instr.buildSlice,Sem.run_bind,run_underlying hu,Result.andThen_ok,(hT e de nL).run_sizeOf w,mo,if_false];by_cases h0:n*de.size=0
      ·simp only[h0,if_true,Sem.run_bind,Sem.run_pure,Result.andThen_ok];have O8:Instr.fill (fun i=>some (i*de.size,de.size)) ((Array.range 0).map ((#[]:Array Value)[·%(#[]:Array Value).size]!)) (parts.map fun (i,x)=>(i,a.eval x)).toList=some arr:=by
        have Mn:∀f:Nat→Value,(Array.range 0).map f = #[]:=fun f=>by simp
        rw[←Oc,h0,Mn,Mn]
       rw[O8];rfl
      ·simp only[h0,if_false,Sem.run_bind,hz,Sem.run_pure,Result.andThen_ok];rw[Oc];rfl
     ·cases aJ
   ·cases aJ
  ·cases aJ
 ·cases aJ
end
end Go.Proofs.YtneklnlpgfeplaaGreat.Sym
