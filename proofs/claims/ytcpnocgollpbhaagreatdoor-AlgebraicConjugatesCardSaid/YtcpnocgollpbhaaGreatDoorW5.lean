/- Lemmas for the statements of this seat. -/
import Derived.Test.YtcpnocgollpbhaaGreatDoorW4
namespace Go.Proofs.YtcpnocgollpbhaaGreatDoor.Sym
open Go Go.RowKit
section
variable {P:Program} {T:kL} {a:Act} {w:World} {β:Nat→Option Nat} {L I:Nat→Prop} {aG:aS} {ρ:Operand→Option EV} {h:Hint} {res:oq}
variable {dst:Option Tmp} {ty:TypeId} {pos:String} {after:Array Edge} {guard:Option (Nat×Bool)}
theorem cv{o:Oper}{s:Sem Value}{v:Value}{w':World}(he:execOp a.eval o=(do pure (.value (←s)):Sem Next))(hs:s.run P w = .ok v w'):(execOp a.eval o).run P w = .ok (.value v) w':=by rw[he];simp[hs]
theorem cz{e:EV}(h:fU e=some res):res=⟨e,none,[]⟩:=by injection h with h;exact h.symm
theorem Jo{x:Operand}(hp:Af a w β L I aG ρ)(ar:bW T aG dst (.move x) ρ h=some res):dc P ⟨dst,.move x,ty,pos,after,guard⟩ a β L I w res:=by
 simp only[bW] at ar;split at ar
 ·rename_i e he;rw[cz ar];exact dc.pure rfl (hp.ev x e he)
 ·cases ar
theorem Fi{x:Operand}(hp:Af a w β L I aG ρ)(ar:bW T aG dst (.assign x) ρ h=some res):dc P ⟨dst,.assign x,ty,pos,after,guard⟩ a β L I w res:=by
 simp only[bW] at ar;split at ar
 ·rw[cz ar];exact dc.pure (e := .pv .dX) rfl Rd.dX
 ·split at ar
  ·rename_i e he;rw[cz ar];exact dc.pure rfl (hp.ev x e he)
  ·cases ar
theorem bE.KM{cs:List PV}{us:List Value}(h:bE I w cs us):bE I w (cs.map KM) us:=by
 refine⟨by simpa using h.1,fun j c u hc hu => ?_⟩;rw[afT] at hc;cases hj:cs[j]? with
 |none=>simp[hj] at hc
 |some p =>
  simp[hj] at hc;obtain⟨h1,h2⟩:=h.2 j p u hj hu;subst hc;cases p<;>first|exact⟨h1,h2⟩|skip
  cases h2;exact⟨rfl,.nil _ _⟩
theorem bE.jk{d:TD}{us:List Value}(h:bE I w d.zero us)(hh:Hint):bE I w (jk hh d) us:=by
 unfold Sym.jk;split
 ·exact h
 ·exact h.KM
theorem Mr(hh:Hint)(d:TD):(jk hh d).length=d.zero.length:=by unfold jk;split<;>simp
theorem Jp{c x y:Operand}(hp:Af a w β L I aG ρ)(ar:bW T aG dst (.pick c x y) ρ h=some res)(bT:dK res.ob):dc P ⟨dst,.pick c x y,ty,pos,after,guard⟩ a β L I w res:=by
 simp only[bW] at ar;have key:∀(t:Bool) (e:EV),ρ c=some (.pv (.bool t))→ρ (bif t then x else y)=some e→(execOp a.eval ⟨dst,.pick c x y,ty,pos,after,guard⟩).run P w = .ok (.value (a.eval (bif t then x else y))) w:=by
  intro t e hc _;have hb:=hp.ev c _ hc;have fw:a.eval c = .bool t:=by generalize a.eval c=v at hb;cases hb;rfl
  simp only[execOp,fw];cases t<;>simp[asBool]
 split at ar
 ·rename_i t d hc;split at ar
  ·rename_i e he;injection ar with ar;subst ar
   have ht:t=d:=bT;subst ht;exact dc.pure (key t e hc he) (hp.ev _ e he)
  ·cases ar
 ·rename_i t hc;split at ar
  ·rename_i e he;injection ar with ar;subst ar
   exact dc.pure (key t e hc he) (hp.ev _ e he)
  ·cases ar
 ·cases ar
theorem Hi{t:TypeId}(hT:n8 P T)(hp:Af a w β L I aG ρ)(ar:bW T aG dst (.alloc t) ρ h=some res):dc P ⟨dst,.alloc t,ty,pos,after,guard⟩ a β L I w res:=by
 simp only[bW] at ar;split at ar
 ·rename_i d r hd;injection ar with ar;subst ar
  obtain⟨z,hz,_,_,hc⟩:=(hT t d hd).qY w;refine⟨_,_,?_,vF.new (el:=t) (arr:=z.cells) hp.lb hp.ib (fun j e he=>by obtain⟨u,h1,h2,h3⟩:=((hc I w).jk h).rI (β:=β) (L:=L) j e he;exact⟨u,by simpa using h1,h2,h3⟩) (.inl ⟨rfl,rfl⟩)⟩
  simp[execOp,Instr.alloc,hz,newVar,newRow]
 ·cases ar
theorem Ms{t:TypeId}{x:Operand}(hp:Af a w β L I aG ρ)(ar:bW T aG dst (.box t x) ρ h=some res):dc P ⟨dst,.box t x,ty,pos,after,guard⟩ a β L I w res:=by
 simp only[bW] at ar;split at ar
 ·rename_i e r he;split at ar
  ·rename_i cs Ag;injection ar with ar;subst ar
   refine⟨_,_,?_,vF.new (el:=t) (arr:=(a.eval x).cells) hp.lb hp.ib (fun j c hj=>nG (hp.ev x e he) Ag j c hj) (.inl ⟨rfl,rfl⟩)⟩;simp[execOp,Instr.box,newVar,newRow]
  ·cases ar
 ·cases ar
theorem Hj{t:TypeId}{parts:Array (Nat×Operand)}(hT:n8 P T)(hp:Af a w β L I aG ρ)(ar:bW T aG dst (.build t parts) ρ h=some res):dc P ⟨dst,.build t parts,ty,pos,after,guard⟩ a β L I w res:=by
 simp only[bW] at ar;split at ar
 ·rename_i d ps hd oz;split at ar
  ·rename_i fs hk;split at ar
   ·rename_i cs Ag;rw[cz ar];have Be:=qJ hp.ev parts.toList ps oz;obtain⟨v,h1,h2⟩:=yc (hT t d hd) hk w (vs:=parts.map fun (i,x)=>(i,a.eval x)) (by simpa using Be) (zs:=jk h d) (fun us Dx=>Dx.jk h) Ag;exact dc.pure (e := .pv (.agg cs)) (cv rfl h1) h2
   ·cases ar
  ·cases ar
 ·rename_i d hd oz;split at ar
  ·rename_i fs ps hk Zb;split at ar
   ·rename_i cs Ag;rw[cz ar];have Be:=u6 hp.ev parts.toList ps Zb;obtain⟨arr,h1,h2,h3⟩:=wT (hT t d hd) hk w (R:=fun f u=>u.oneCell'=true∧RE β L I w f.ev u) (fun c u ho hr=>⟨hr.j9 ho,hr⟩) (vs:=parts.map fun (i,x)=>(i,a.eval x)) (by simpa using Be) (zs:=jk h d) (fun us Dx=>Dx.jk h) Ag;refine dc.pure (e := .mW cs) (cv rfl h1) ⟨arr,rfl,by simpa using h2.symm,fun j f u hf hu => ?_⟩;obtain⟨g1,g2⟩:=h3 j f u hf (by simpa using hu);cases f with
    |pv p=>exact⟨PV.lI g2 g1,g2⟩
    |row r off len sz=>exact g2
    |ji j len sz=>exact g2
   ·cases ar
  ·cases ar
 ·cases ar
theorem Hk{α:Type}(z:List α):∀(n j:Nat),((List.replicate n z).flatten)[j]? = if j<n*z.length then z[j%z.length]? else none
 |0,j=>by simp
 |n+1,j=>by
  rw[List.replicate_succ,ahm,agZ,Hk z n];have hm:(n+1)*z.length=z.length+n*z.length:=by rw[ahS];omega
  by_cases h1:j<z.length
  ·rw[ag9 h1,ag9 (by omega),agu h1]
  ·rw[ag7 h1];have h2:j%z.length=(j-z.length)%z.length:=by
    rw[Nat.mod_eq_sub_mod (by omega)]
   rw[h2];by_cases h3:j<(n+1)*z.length
   ·rw[ag9 h3,ag9 (by omega)]
   ·rw[ag7 h3,ag7 (by omega)]
theorem Bf{cs:List PV}{us:Array Value}{I:Nat→Prop}(hc:bE I w cs us.toList)(n m:Nat)(hm:m=n*us.size)(hs:1≤us.size) :
  bE I w ((List.replicate n cs).flatten) ((Array.range m).map (us[·%us.size]!)).toList:=by
 have hl:cs.length=us.size:=by simpa using hc.1
 refine⟨by simp[hm,hl],fun j c u hj hu => ?_⟩;rw[Hk,hl] at hj;simp only[Array.toList_map,Array.toList_range,List.getElem?_map] at hu;by_cases Yy:j<n*us.size
 ·rw[ag9 Yy] at hj;rw[ahF (by omega)] at hu;simp only[Option.map_some,Option.some.injEq] at hu;have bH:j%us.size<us.size:=ahy _ (by omega);refine hc.2 _ c u hj ?_;rw[←hu];simp[bH]
 ·rw[ag7 Yy] at hj;cases hj
theorem ye{t:TypeId}{n:Nat}{parts:Array (Nat×Operand)}(hT:n8 P T)(hp:Af a w β L I aG ρ)(ar:bW T aG dst (.buildSlice t n parts) ρ h=some res)(bT:dK res.ob) :
  dc P ⟨dst,.buildSlice t n parts,ty,pos,after,guard⟩ a β L I w res:=by
 simp only[bW] at ar;split at ar
 ·rename_i d ps r hd oz;split at ar
  ·rename_i e hk;split at ar
   ·rename_i de oW;cases hb:(Nat.ble (n*de.size) 4096&&Nat.ble 1 de.size) with
    |false=>simp[hb] at ar
    |true =>
     simp only[hb,cond_true] at ar;simp only[Bool.and_eq_true,Nat.ble_eq] at hb;split at ar
     ·rename_i cs ob Zc;have Ag:rQ (fun i=>some (i*de.size,de.size)) ((List.replicate n (jk h de)).flatten) ps=some cs:=by
       obtain⟨k1,k2⟩:=Hh Zc;split at ar
       ·rw[k2 _ _ _ rfl] at k1;exact k1 True.intro
       ·injection ar with ar;subst ar;exact k1 bT
      obtain⟨u,hu,_,hf⟩:=(hT t d hd).under;rw[hk] at hf;have hf:u = .slice e:=hf;subst hf;obtain⟨z,hz,_,Hf,hc⟩:=(hT e de oW).qY w;have Be:=qJ hp.ev parts.toList ps oz;have hzero:=Bf (w:=w) ((hc I w).jk h) n (n*de.size) (by rw[Hf]) (by omega);obtain⟨arr,ha,hr⟩:=vE (fun i=>some (i*de.size,de.size)) ps _ _ _ cs Be hzero Ag;have hlen:arr.size=n*de.size:=by
       have h2:cs.length=n*de.size:=by
        have TQ:=(hT e de oW).NQ;have:∀(qs:List (Nat×PV)) (c o:List PV),rQ (fun i=>some (i*de.size,de.size)) c qs=some o→o.length=c.length:=by
         intro qs
         induction qs with
         |nil=>intro c o h;injection h with h;rw[h]
         |cons q qs ih =>
          intro c o h;obtain⟨i,p⟩:=q;simp only[rQ] at h;cases fw:(Nat.beq p.cells.length de.size&&Nat.ble (i*de.size+p.cells.length) c.length && !p.ti) with
          |false=>simp[fw] at h
          |true =>simp only[fw,cond_true] at h;simp only[Bool.and_eq_true,Nat.ble_eq] at fw;rw[ih _ _ h,vD _ _ _ fw.1.2]
        rw[this _ _ _ Ag];simp[Mr,TQ]
       have:=hr.1;simp at this;omega
      have Bg:vF β L I w (some r) res (.slice (some ⟨w.heap.size,0,none⟩) n n) (w.alloc (.cells arr e)):=by
       split at ar
       ·rename_i xs;injection ar with ar;subst ar
        obtain⟨g1,g2,g3⟩:=bT;refine vF.QZ hp.ib (fun j c hj => ?_) g1 g2 g3;have bH:j<arr.toList.length:=by rw[←hr.1];exact(afQ.1 hj).1
        have Hl:=afO bH;exact⟨arr.toList[j],by simp,hr.2 j c _ hj Hl⟩
       ·injection ar with ar;subst ar
        exact vF.new (el:=e) (arr:=arr) hp.lb hp.ib (fun j c hj=>by obtain⟨u,h1,h2,h3⟩:=hr.rI (β:=β) (L:=L) j c hj;exact⟨u,by simpa using h1,h2,h3⟩) (.inr ⟨n,de.size,rfl,rfl,by omega⟩)
      refine⟨_,_,?_,Bg⟩;have qX:¬(n*de.size>2^24):=by omega
      have SL:Instr.fill (fun i=>some (i*de.size,de.size)) ((Array.range (n*de.size)).map (z.cells[·%z.cells.size]!)) (parts.map fun (i,x)=>(i,a.eval x)).toList=some arr:=by simpa using ha
      refine cv rfl ?_;simp only[Instr.buildSlice,Sem.run_bind,run_underlying hu,Result.andThen_ok,(hT e de oW).run_sizeOf w,qX,if_false];by_cases h0:n*de.size=0
      ·simp only[h0,if_true,Sem.run_bind,Sem.run_pure,Result.andThen_ok];have TR:Instr.fill (fun i=>some (i*de.size,de.size)) ((Array.range 0).map ((#[]:Array Value)[·%(#[]:Array Value).size]!)) (parts.map fun (i,x)=>(i,a.eval x)).toList=some arr:=by
        have G6:∀f:Nat→Value,(Array.range 0).map f = #[]:=fun f=>by simp
        rw[←SL,h0,G6,G6]
       rw[TR];rfl
      ·simp only[h0,if_false,Sem.run_bind,hz,Sem.run_pure,Result.andThen_ok];rw[SL];rfl
     ·cases ar
   ·cases ar
  ·cases ar
 ·cases ar
end
end Go.Proofs.YtcpnocgollpbhaaGreatDoor.Sym
