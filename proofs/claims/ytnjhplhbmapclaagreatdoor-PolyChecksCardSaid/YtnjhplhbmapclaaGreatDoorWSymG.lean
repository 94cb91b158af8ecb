/- Lemmas for the statements of this seat. -/
import Derived.Test.YtnjhplhbmapclaaGreatDoorWSymF
namespace Go.Proofs.YtnjhplhbmapclaaGreatDoor.Sym
open Go Go.RowKit
section
variable {P:Program} {T:gi} {a:Act} {w:World} {β:Nat→Option Nat} {L I:Nat→Prop} {aw:aD} {ρ:Operand→Option EV} {h:Hint} {res:jv}
variable {dst:Option Tmp} {ty:TypeId} {pos:String} {after:Array Edge} {guard:Option (Nat×Bool)}
theorem yS{t:TypeId}{x:Operand}(hT:jh P T)(hp:rW a w β L I aw ρ)(ai:bk T aw dst (.load t x) ρ h=some res)(bj:bV res.ob):bJ P ⟨dst,.load t x,ty,pos,after,guard⟩ a β L I w res:=by
 simp only[bk] at ai
 split at ai
 ·rename_i d r off hd hx
  obtain⟨IG,b,jw,hv⟩:=hp.ev x _ hx
  split at ai
  ·rename_i cells hc
   obtain⟨v,h1,h2,h3⟩:=vb (hT t d hd) (hp.st r cells hc IG) jw ai bj
   obtain⟨e,new,ob⟩:=res
   subst h3
   refine bJ.pure (bn rfl ?_) h2
   rw[hv]
   simp only[Instr.loadAt,Instr.sureAddr,Sem.run_bind,Sem.run_pure,Result.andThen_ok]
   exact h1
  ·cases ai
 ·rename_i d cells hd hx
  obtain⟨b,o,hv,hb,hc⟩:=hp.ev x _ hx
  cases ha:d.agg with
  |true =>
   simp only[ha,cond_true] at ai
   cases hs:Nat.ble d.size cells.length with
   |false=>simp[hs] at ai
   |true =>
    simp only[hs,cond_true] at ai
    rw[br ai]
    have Cy:d.size≤cells.length:=Nat.le_of_ble_eq_true hs
    obtain⟨v,h1,h2⟩:=my (hT t d hd) ha (b:=b) (o:=o) (ps:=cells.take d.size) (by simp;omega) (fun j x hj=>by
     rw[List.getElem?_take] at hj
     split at hj
     ·exact hc j x hj
     ·cases hj)
    refine bJ.pure (e := .pv _) (bn rfl ?_) h2
    rw[hv]
    simp only[Instr.loadAt,Instr.sureAddr,Sem.run_bind,Sem.run_pure,Result.andThen_ok]
    exact h1
  |false =>
   simp only[ha,cond_false] at ai
   split at ai
   ·rename_i p r
    rw[br ai]
    obtain⟨_,u,h2,h3⟩:=hc 0 p rfl
    refine bJ.pure (e := .pv p) (bn rfl ?_) h3
    rw[hv]
    simp only[Instr.loadAt,Instr.sureAddr,Sem.run_bind,Sem.run_pure,Result.andThen_ok]
    exact jk (hT t d hd) ha h2
   ·cases ai
 ·cases ai
theorem sY{x:Operand}(hp:rW a w β L I aw ρ)(ai:bk T aw dst (.nilCheck x) ρ h=some res):bJ P ⟨dst,.nilCheck x,ty,pos,after,guard⟩ a β L I w res:=by
 simp only[bk] at ai
 split at ai
 ·rename_i r off hx
  rw[br ai]
  have he:=hp.ev x _ hx
  obtain⟨_,b,_,hv⟩:=he
  refine bJ.pure ?_ (hp.ev x _ hx)
  simp only[execOp,hv]
  rfl
 ·rename_i c hx
  rw[br ai]
  have he:=hp.ev x _ hx
  obtain⟨b,o,hv,_⟩:=he
  refine bJ.pure ?_ (hp.ev x _ hx)
  simp only[execOp,hv]
  rfl
 ·rename_i r off hx
  rw[br ai]
  have he:=hp.ev x _ hx
  obtain⟨_,b,_,hv⟩:=he
  refine bJ.pure ?_ (hp.ev x _ hx)
  simp only[execOp,hv]
  rfl
 ·cases ai
theorem Bp{t:TypeId}{p:PV}(hT:jh P T)(ht:EF T t p=true):Gx P t p:=by
 unfold EF at ht
 unfold Gx
 split at ht
 ·split at ht
  ·rename_i d hd
   split at ht
   ·rename_i hk
    obtain⟨u,hu,_,hf⟩:=(hT t d hd).under
    rw[hk] at hf
    have hf:u = .bool:=hf
    subst hf;exact hu
   ·cases ht
  ·cases ht
 ·split at ht
  ·rename_i d hd
   split at ht
   ·rename_i hk
    obtain⟨u,hu,_,hf⟩:=(hT t d hd).under
    rw[hk] at hf
    obtain⟨ms,rfl⟩:∃ms,u = .interface ms:=hf
    exact⟨ms,hu⟩
   ·cases ht
  ·cases ht
 ·split at ht
  ·rename_i d hd
   split at ht
   ·rename_i hk
    obtain⟨u,hu,_,hf⟩:=(hT t d hd).under
    rw[hk] at hf
    obtain⟨ms,rfl⟩:∃ms,u = .interface ms:=hf
    exact⟨ms,hu⟩
   ·cases ht
  ·cases ht
 ·split at ht
  ·rename_i d hd
   rw[Bool.and_eq_true,Bool.not_eq_true'] at ht
   exact⟨d.Ek,(hT t d hd).Ek (fun e=>by rw[e] at ht;simp at ht),ht.2⟩
  ·cases ht
 ·split<;>first|trivial|(exfalso;simp_all)
theorem xo{op:BinOp}{t yt:TypeId}{x y:Operand}(hT:jh P T)(hp:rW a w β L I aw ρ)(ai:bk T aw dst (.binOp op t x y yt) ρ h=some res)(bj:bV res.ob) :
  bJ P ⟨dst,.binOp op t x y yt,ty,pos,after,guard⟩ a β L I w res:=by
 simp only[bk] at ai
 split at ai
 ·rename_i p q hx hy
  have Bq:Rd I w p (a.eval x):=hp.ev x _ hx
  have Ms:Rd I w q (a.eval y):=hp.ev y _ hy
  cases ht:EF T t p with
  |false=>simp[ht] at ai
  |true =>
   simp only[ht,cond_true] at ai
   have FV:=Bp hT ht
   split at ai
   ·rename_i r
    injection ai with ai;subst ai
    obtain⟨v,h1,h2⟩:=u7 w Bq Ms bj FV
    exact bJ.pure (e := .pv r) (bn rfl h1) h2
   ·split at ai
    ·rename_i r hs
     rw[br ai]
     obtain⟨v,h1,h2⟩:=u7 w Bq Ms hs FV
     exact bJ.pure (e := .pv r) (bn rfl h1) h2
    ·cases ai
 ·cases ai
theorem yT{op:UnOp}{t:TypeId}{x:Operand}(hp:rW a w β L I aw ρ)(ai:bk T aw dst (.unOp op t x) ρ h=some res)(bj:bV res.ob) :
  bJ P ⟨dst,.unOp op t x,ty,pos,after,guard⟩ a β L I w res:=by
 simp only[bk] at ai
 split at ai
 ·rename_i p hx
  have Bq:Rd I w p (a.eval x):=hp.ev x _ hx
  split at ai
  ·rename_i r
   injection ai with ai;subst ai
   obtain⟨v,h1,h2⟩:=xg (P:=P) w Bq bj
   exact bJ.pure (e := .pv r) (bn rfl h1) h2
  ·split at ai
   ·rename_i r hs
    rw[br ai]
    obtain⟨v,h1,h2⟩:=xg (P:=P) w Bq hs
    exact bJ.pure (e := .pv r) (bn rfl h1) h2
   ·cases ai
 ·cases ai
theorem uI{s t:TypeId}{x:Operand}(hT:jh P T)(hp:rW a w β L I aw ρ)(ai:bk T aw dst (.convert s t x) ρ h=some res)(bj:bV res.ob) :
  bJ P ⟨dst,.convert s t x,ty,pos,after,guard⟩ a β L I w res:=by
 simp only[bk] at ai
 split at ai
 ·rename_i ds d j n Cz hd hx
  have Bq:Rd I w (.int j n) (a.eval x):=hp.ev x _ hx
  have hv:a.eval x = .int j n:=by generalize a.eval x=v at Bq;cases Bq;rfl
  split at ai
  ·rename_i k hk
   obtain⟨u,hu,_,hf⟩:=(hT t d hd).under
   rw[hk] at hf
   have hf:u = .int k:=hf
   subst hf
   obtain⟨us,uH,_⟩:=(hT s ds Cz).under
   have hr:(convert s t (a.eval x)).run P w = .ok (.int k (k.wrap n)) w:=by
    rw[hv]
    simp[convert,run_underlying hu,run_underlying uH,Conv.intToInt]
   split at ai
   ·rename_i k' m
    cases uF:decide (k=k') with
    |false=>simp[uF] at ai
    |true =>
     simp only[uF,cond_true] at ai
     injection ai with ai;subst ai
     have hw:k.wrap n=m:=bj
     rw[hw] at hr
     exact bJ.pure (e := .pv _) (bn rfl hr) (Rd.int _ _)
   ·rw[br ai]
    exact bJ.pure (e := .pv _) (bn rfl hr) (Rd.int _ _)
  ·cases ai
 ·cases ai
theorem nX{t:TypeId}{x:Operand}(hT:jh P T)(hp:rW a w β L I aw ρ)(ai:bk T aw dst (.makeInterface t x) ρ h=some res) :
  bJ P ⟨dst,.makeInterface t x,ty,pos,after,guard⟩ a β L I w res:=by
 simp only[bk] at ai
 split at ai
 ·rename_i d p hd hx
  have Bq:Rd I w p (a.eval x):=hp.ev x _ hx
  obtain⟨u,hu,_,hf⟩:=(hT t d hd).under
  have key:(∀ms,u ≠ .interface ms)→(Instr.makeInterface t (a.eval x)).run P w = .ok (.iface t (a.eval x)) w:=by
   intro fP
   cases u<;>first|(exact absurd rfl (fP _))|simp[Instr.makeInterface,run_underlying hu]
  split at ai
  ·cases ai
  ·cases ai
  ·rename_i h1 h2
   rw[br ai]
   refine bJ.pure (e := .pv _) (bn rfl (key fun ms e => ?_)) (Rd.iface _ _ _ Bq)
   subst e
   cases hk:d.kind<;>rw[hk] at hf<;>simp only[TK.fits] at hf
   ·cases hf
   ·cases hf
   ·cases hf
   ·exact h1 hk
   ·cases hf
   ·obtain⟨ff,Em,_⟩:=hf;cases Em
   ·obtain⟨Em,_⟩:=hf;cases Em
   ·exact h2 hk
 ·cases ai
theorem rY{t:TypeId}{x y:Operand}(hT:jh P T)(hp:rW a w β L I aw ρ)(ai:bk T aw dst (.makeSlice t x y) ρ h=some res)(bj:bV res.ob) :
  bJ P ⟨dst,.makeSlice t x y,ty,pos,after,guard⟩ a β L I w res:=by
 simp only[bk] at ai
 split at ai
 ·rename_i d n n' r m out hd hx hy
  have Bq:Rd I w (.int .i64 n) (a.eval x):=hp.ev x _ hx
  have Mt:Rd I w (.int .i64 n') (a.eval y):=hp.ev y _ hy
  have uD:a.eval x = .int .i64 n:=by generalize a.eval x=v at Bq;cases Bq;rfl
  have qw:a.eval y = .int .i64 n':=by generalize a.eval y=v at Mt;cases Mt;rfl
  split at ai
  ·rename_i e hk
   obtain⟨u,hu,_,hf⟩:=(hT t d hd).under
   rw[hk] at hf
   have hf:u = .slice e:=hf
   subst hf
   split at ai
   ·rename_i de kp
    obtain⟨i,hi,_,_,Ks⟩:=(hT e de kp).run_typeInfo w
    obtain⟨z,hz,_,xh,hc⟩:=(hT e de kp).lf w
    have exec:n=(m:Int)→n'=(m:Int)→de.bytes*m≤140737488355328→m<9223372036854775808→1≤de.size →
      (Instr.makeSlice t (a.eval x) (a.eval y)).run P w = .ok (.slice (some ⟨w.heap.size,0,none⟩) m m) (w.alloc (.cells ((Array.range (m*de.size)).map (z.cells[·%z.cells.size]!)) e)):=by
     intro h1 h2 h3 h4 h5
     rw[uD,qw,h1,h2]
     have hw:IntKind.i64.wrap (m:Int)=m:=by
      have:=IntKind.wrap_i64 (m:Int)
      omega
     have hb:¬((de.bytes:Int)*(m:Int)>2^48):=by
      have CA:((de.bytes*m:Nat):Int)≤((140737488355328:Nat):Int):=Int.ofNat_le.2 h3
      rw[Int.natCast_mul] at CA
      intro h6
      have h7:((140737488355328:Nat):Int)=140737488355328:=rfl
      omega
     have IH:((((m:Int)<0||decide ((de.bytes:Int)*(m:Int)>2^48))||decide ((m:Int)<0))||decide ((m:Int)>(m:Int)))=false:=by
      simp only[Bool.or_eq_false_iff,decide_eq_false_iff_not]
      exact⟨⟨⟨by omega,hb⟩,by omega⟩,by omega⟩
     simp only[Instr.makeSlice,Sem.run_bind,run_underlying hu,Result.andThen_ok,asInt,asIntOf,Sem.run_pure,hi,Ks,hw,IH,Bool.false_eq_true,if_false,run_askRoom,(hT e de kp).run_sizeOf w,Int.toNat_natCast]
     by_cases h0:m*de.size=0
     ·have hm:m=0:=by
       rcases Nat.mul_eq_zero.1 h0 with h|h
       ·exact h
       ·omega
      subst hm
      have B5:∀f:Nat→Value,(Array.range 0).map f = #[]:=fun f=>by simp
      simp only[Nat.zero_mul,if_true,Sem.run_bind,Sem.run_pure,Result.andThen_ok,B5]
      rfl
     ·simp only[h0,if_false,Sem.run_bind,hz,Result.andThen_ok,Sem.run_pure]
      rfl
    cases hs:Nat.ble 1 de.size with
    |false=>simp[hs] at ai
    |true =>
     simp only[hs,cond_true] at ai
     injection ai with ai;subst ai
     obtain⟨h1,bj⟩:=bj.cons
     obtain⟨h2,bj⟩:=bj.cons
     obtain⟨h3,bj⟩:=bj.cons
     obtain⟨h4,h5⟩:=bj.cons
     have h5:(List.replicate m (eE .none de)).flatten=out:=h5
     subst h5
     have Cy:1≤de.size:=Nat.le_of_ble_eq_true hs
     have ox:aV I w ((List.replicate m (eE .none de)).flatten) ((Array.range (m*de.size)).map (z.cells[·%z.cells.size]!)).toList:=sW ((hc I w).eE .none) m (m*de.size) (by rw[xh]) (by omega)
     refine⟨_,_,bn rfl (exec h1 h2 h3 h4 Cy),ow.new hp.lb hp.ib (fun j c hj => ?_) (.inr ⟨m,de.size,rfl,rfl,by simp⟩)⟩
     obtain⟨u,g1,g2,g3⟩:=ox.mw (β:=β) (L:=L) j c hj
     exact⟨u,by rwa[Array.getElem?_toList] at g1,g2,g3⟩
   ·cases ai
  ·cases ai
 ·cases ai
end
end Go.Proofs.YtnjhplhbmapclaaGreatDoor.Sym
