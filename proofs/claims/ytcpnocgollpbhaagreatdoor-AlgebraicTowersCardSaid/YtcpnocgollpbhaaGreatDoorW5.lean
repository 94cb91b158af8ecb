/- Lemmas for the statements of this seat. -/
import Derived.Test.YtcpnocgollpbhaaGreatDoorW4
namespace Go.Proofs.YtcpnocgollpbhaaGreatDoor.Sym
open Go Go.RowKit
section
variable {P:Program} {T:lh} {a:Act} {w:World} {β:Nat→Option Nat} {L I:Nat→Prop} {aK:aT} {ρ:Operand→Option EV} {h:Hint} {res:oP}
variable {dst:Option Tmp} {ty:TypeId} {pos:String} {after:Array Edge} {guard:Option (Nat×Bool)}
theorem cF{o:Oper}{s:Sem Value}{v:Value}{w':World}(he:execOp a.eval o=(do pure (.value (←s)):Sem Next))(hs:s.run P w = .ok v w'):(execOp a.eval o).run P w = .ok (.value v) w':=by rw[he];simp[hs]
theorem cH{e:EV}(h:gp e=some res):res=⟨e,none,[]⟩:=by injection h with h;exact h.symm
theorem J6{x:Operand}(hp:Bq a w β L I aK ρ)(aw:cw T aK dst (.move x) ρ h=some res):dy P ⟨dst,.move x,ty,pos,after,guard⟩ a β L I w res:=by
 simp only[cw] at aw;split at aw
 ·rename_i e he;rw[cH aw];exact dy.pure rfl (hp.ev x e he)
 ·cases aw
theorem Gd{x:Operand}(hp:Bq a w β L I aK ρ)(aw:cw T aK dst (.assign x) ρ h=some res):dy P ⟨dst,.assign x,ty,pos,after,guard⟩ a β L I w res:=by
 simp only[cw] at aw;split at aw
 ·rw[cH aw];exact dy.pure (e := .pv .ek) rfl Rd.ek
 ·split at aw
  ·rename_i e he;rw[cH aw];exact dy.pure rfl (hp.ev x e he)
  ·cases aw
theorem bM.Lu{cs:List PV}{us:List Value}(h:bM I w cs us):bM I w (cs.map Lu) us:=by
 refine⟨by simpa using h.1,fun j c u hc hu => ?_⟩;rw[afu] at hc;cases hj:cs[j]? with
 |none=>simp[hj] at hc
 |some p =>
  simp[hj] at hc;obtain⟨h1,h2⟩:=h.2 j p u hj hu;subst hc;cases p<;>first|exact⟨h1,h2⟩|skip
  cases h2;exact⟨rfl,.nil _ _⟩
theorem bM.jC{d:TD}{us:List Value}(h:bM I w d.zero us)(hh:Hint):bM I w (jC hh d) us:=by
 unfold Sym.jC;split
 ·exact h
 ·exact h.Lu
theorem M6(hh:Hint)(d:TD):(jC hh d).length=d.zero.length:=by unfold jC;split<;>simp
theorem J7{c x y:Operand}(hp:Bq a w β L I aK ρ)(aw:cw T aK dst (.pick c x y) ρ h=some res)(cv:dX res.ob):dy P ⟨dst,.pick c x y,ty,pos,after,guard⟩ a β L I w res:=by
 simp only[cw] at aw;have key:∀(t:Bool) (e:EV),ρ c=some (.pv (.bool t))→ρ (bif t then x else y)=some e→(execOp a.eval ⟨dst,.pick c x y,ty,pos,after,guard⟩).run P w = .ok (.value (a.eval (bif t then x else y))) w:=by
  intro t e hc _;have hb:=hp.ev c _ hc;have fG:a.eval c = .bool t:=by generalize a.eval c=v at hb;cases hb;rfl
  simp only[execOp,fG];cases t<;>simp[asBool]
 split at aw
 ·rename_i t d hc;split at aw
  ·rename_i e he;injection aw with aw;subst aw
   have ht:t=d:=cv;subst ht;exact dy.pure (key t e hc he) (hp.ev _ e he)
  ·cases aw
 ·rename_i t hc;split at aw
  ·rename_i e he;injection aw with aw;subst aw
   exact dy.pure (key t e hc he) (hp.ev _ e he)
  ·cases aw
 ·cases aw
theorem HZ{t:TypeId}(hT:oE P T)(hp:Bq a w β L I aK ρ)(aw:cw T aK dst (.alloc t) ρ h=some res):dy P ⟨dst,.alloc t,ty,pos,after,guard⟩ a β L I w res:=by
 simp only[cw] at aw;split at aw
 ·rename_i d r hd;injection aw with aw;subst aw
  obtain⟨z,hz,_,_,hc⟩:=(hT t d hd).r6 w;refine⟨_,_,?_,wT.new (el:=t) (arr:=z.cells) hp.lb hp.ib (fun j e he=>by obtain⟨u,h1,h2,h3⟩:=((hc I w).jC h).sG (β:=β) (L:=L) j e he;exact⟨u,by simpa using h1,h2,h3⟩) (.inl ⟨rfl,rfl⟩)⟩
  simp[execOp,Instr.alloc,hz,newVar,newRow]
 ·cases aw
theorem M7{t:TypeId}{x:Operand}(hp:Bq a w β L I aK ρ)(aw:cw T aK dst (.box t x) ρ h=some res):dy P ⟨dst,.box t x,ty,pos,after,guard⟩ a β L I w res:=by
 simp only[cw] at aw;split at aw
 ·rename_i e r he;split at aw
  ·rename_i cs Br;injection aw with aw;subst aw
   refine⟨_,_,?_,wT.new (el:=t) (arr:=(a.eval x).cells) hp.lb hp.ib (fun j c hj=>nX (hp.ev x e he) Br j c hj) (.inl ⟨rfl,rfl⟩)⟩;simp[execOp,Instr.box,newVar,newRow]
  ·cases aw
 ·cases aw
theorem H0{t:TypeId}{parts:Array (Nat×Operand)}(hT:oE P T)(hp:Bq a w β L I aK ρ)(aw:cw T aK dst (.build t parts) ρ h=some res):dy P ⟨dst,.build t parts,ty,pos,after,guard⟩ a β L I w res:=by
 simp only[cw] at aw;split at aw
 ·rename_i d ps hd o0;split at aw
  ·rename_i fs hk;split at aw
   ·rename_i cs Br;rw[cH aw];have Cu:=rK hp.ev parts.toList ps o0;obtain⟨v,h1,h2⟩:=zA (hT t d hd) hk w (vs:=parts.map fun (i,x)=>(i,a.eval x)) (by simpa using Cu) (zs:=jC h d) (fun us Ex=>Ex.jC h) Br;exact dy.pure (e := .pv (.agg cs)) (cF rfl h1) h2
   ·cases aw
  ·cases aw
 ·rename_i d hd o0;split at aw
  ·rename_i fs ps hk Zf;split at aw
   ·rename_i cs Br;rw[cH aw];have Cu:=we hp.ev parts.toList ps Zf;obtain⟨arr,h1,h2,h3⟩:=xS (hT t d hd) hk w (R:=fun f u=>u.oneCell'=true∧RE β L I w f.ev u) (fun c u ho hr=>⟨hr.kA ho,hr⟩) (vs:=parts.map fun (i,x)=>(i,a.eval x)) (by simpa using Cu) (zs:=jC h d) (fun us Ex=>Ex.jC h) Br;refine dy.pure (e := .nC cs) (cF rfl h1) ⟨arr,rfl,by simpa using h2.symm,fun j f u hf hu => ?_⟩;obtain⟨g1,g2⟩:=h3 j f u hf (by simpa using hu);cases f with
    |pv p=>exact⟨PV.l5 g2 g1,g2⟩
    |row r off len sz=>exact g2
    |jB j len sz=>exact g2
   ·cases aw
  ·cases aw
 ·cases aw
theorem H2{α:Type}(z:List α):∀(n j:Nat),((List.replicate n z).flatten)[j]? = if j<n*z.length then z[j%z.length]? else none
 |0,j=>by simp
 |n+1,j=>by
  rw[List.replicate_succ,agY,agE,H2 z n];have hm:(n+1)*z.length=z.length+n*z.length:=by rw[ahb];omega
  by_cases h1:j<z.length
  ·rw[afI h1,afI (by omega),ag1 h1]
  ·rw[afG h1];have h2:j%z.length=(j-z.length)%z.length:=by
    rw[Nat.mod_eq_sub_mod (by omega)]
   rw[h2];by_cases h3:j<(n+1)*z.length
   ·rw[afI h3,afI (by omega)]
   ·rw[afG h3,afG (by omega)]
theorem Cv{cs:List PV}{us:Array Value}{I:Nat→Prop}(hc:bM I w cs us.toList)(n m:Nat)(hm:m=n*us.size)(hs:1≤us.size) :
  bM I w ((List.replicate n cs).flatten) ((Array.range m).map (us[·%us.size]!)).toList:=by
 have hl:cs.length=us.size:=by simpa using hc.1
 refine⟨by simp[hm,hl],fun j c u hj hu => ?_⟩;rw[H2,hl] at hj;simp only[Array.toList_map,Array.toList_range,List.getElem?_map] at hu;by_cases YE:j<n*us.size
 ·rw[afI YE] at hj;rw[ahk (by omega)] at hu;simp only[Option.map_some,Option.some.injEq] at hu;have dI:j%us.size<us.size:=ahd _ (by omega);refine hc.2 _ c u hj ?_;rw[←hu];simp[dI]
 ·rw[afG YE] at hj;cases hj
theorem zD{t:TypeId}{n:Nat}{parts:Array (Nat×Operand)}(hT:oE P T)(hp:Bq a w β L I aK ρ)(aw:cw T aK dst (.buildSlice t n parts) ρ h=some res)(cv:dX res.ob) :
  dy P ⟨dst,.buildSlice t n parts,ty,pos,after,guard⟩ a β L I w res:=by
 simp only[cw] at aw;split at aw
 ·rename_i d ps r hd o0;split at aw
  ·rename_i e hk;split at aw
   ·rename_i de pE;cases hb:(Nat.ble (n*de.size) 4096&&Nat.ble 1 de.size) with
    |false=>simp[hb] at aw
    |true =>
     simp only[hb,cond_true] at aw;simp only[Bool.and_eq_true,Nat.ble_eq] at hb;split at aw
     ·rename_i cs ob Zg;have Br:sK (fun i=>some (i*de.size,de.size)) ((List.replicate n (jC h de)).flatten) ps=some cs:=by
       obtain⟨k1,k2⟩:=HY Zg;split at aw
       ·rw[k2 _ _ _ rfl] at k1;exact k1 True.intro
       ·injection aw with aw;subst aw;exact k1 cv
      obtain⟨u,hu,_,hf⟩:=(hT t d hd).under;rw[hk] at hf;have hf:u = .slice e:=hf;subst hf;obtain⟨z,hz,_,HW,hc⟩:=(hT e de pE).r6 w;have Cu:=rK hp.ev parts.toList ps o0;have hzero:=Cv (w:=w) ((hc I w).jC h) n (n*de.size) (by rw[HW]) (by omega);obtain⟨arr,ha,hr⟩:=wS (fun i=>some (i*de.size,de.size)) ps _ _ _ cs Cu hzero Br;have hlen:arr.size=n*de.size:=by
       have h2:cs.length=n*de.size:=by
        have Um:=(hT e de pE).Ou;have:∀(qs:List (Nat×PV)) (c o:List PV),sK (fun i=>some (i*de.size,de.size)) c qs=some o→o.length=c.length:=by
         intro qs
         induction qs with
         |nil=>intro c o h;injection h with h;rw[h]
         |cons q qs ih =>
          intro c o h;obtain⟨i,p⟩:=q;simp only[sK] at h;cases fG:(Nat.beq p.cells.length de.size&&Nat.ble (i*de.size+p.cells.length) c.length && !p.ub) with
          |false=>simp[fG] at h
          |true =>simp only[fG,cond_true] at h;simp only[Bool.and_eq_true,Nat.ble_eq] at fG;rw[ih _ _ h,wR _ _ _ fG.1.2]
        rw[this _ _ _ Br];simp[M6,Um]
       have:=hr.1;simp at this;omega
      have Cw:wT β L I w (some r) res (.slice (some ⟨w.heap.size,0,none⟩) n n) (w.alloc (.cells arr e)):=by
       split at aw
       ·rename_i xs;injection aw with aw;subst aw
        obtain⟨g1,g2,g3⟩:=cv;refine wT.RC hp.ib (fun j c hj => ?_) g1 g2 g3;have dI:j<arr.toList.length:=by rw[←hr.1];exact(afs.1 hj).1
        have H3:=afp dI;exact⟨arr.toList[j],by simp,hr.2 j c _ hj H3⟩
       ·injection aw with aw;subst aw
        exact wT.new (el:=e) (arr:=arr) hp.lb hp.ib (fun j c hj=>by obtain⟨u,h1,h2,h3⟩:=hr.sG (β:=β) (L:=L) j c hj;exact⟨u,by simpa using h1,h2,h3⟩) (.inr ⟨n,de.size,rfl,rfl,by omega⟩)
      refine⟨_,_,?_,Cw⟩;have wU:¬(n*de.size>2^24):=by omega
      have Th:Instr.fill (fun i=>some (i*de.size,de.size)) ((Array.range (n*de.size)).map (z.cells[·%z.cells.size]!)) (parts.map fun (i,x)=>(i,a.eval x)).toList=some arr:=by simpa using ha
      refine cF rfl ?_;simp only[Instr.buildSlice,Sem.run_bind,run_underlying hu,Result.andThen_ok,(hT e de pE).run_sizeOf w,wU,if_false];by_cases h0:n*de.size=0
      ·simp only[h0,if_true,Sem.run_bind,Sem.run_pure,Result.andThen_ok];have Un:Instr.fill (fun i=>some (i*de.size,de.size)) ((Array.range 0).map ((#[]:Array Value)[·%(#[]:Array Value).size]!)) (parts.map fun (i,x)=>(i,a.eval x)).toList=some arr:=by
        have E2:∀f:Nat→Value,(Array.range 0).map f = #[]:=fun f=>by simp
        rw[←Th,h0,E2,E2]
       rw[Un];rfl
      ·simp only[h0,if_false,Sem.run_bind,hz,Sem.run_pure,Result.andThen_ok];rw[Th];rfl
     ·cases aw
   ·cases aw
  ·cases aw
 ·cases aw
end
end Go.Proofs.YtcpnocgollpbhaaGreatDoor.Sym
