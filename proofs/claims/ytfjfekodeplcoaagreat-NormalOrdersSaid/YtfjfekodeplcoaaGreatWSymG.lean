/- Lemmas for the statements of this seat. -/
import Derived.Test.YtfjfekodeplcoaaGreatWSymF
namespace Go.Proofs.YtfjfekodeplcoaaGreat.Sym
open Go Go.RowKit
section
variable {P:Program} {T:jZ} {a:Act} {w:World} {β:Nat→Option Nat} {L I:Nat→Prop} {sto:aN} {ρ:Operand→Option EV} {h:Hint} {res:mW}
variable {dst:Option Tmp} {ty:TypeId} {pos:String} {after:Array Edge} {guard:Option (Nat×Bool)}
theorem DM{t:TypeId}{x:Operand}(hT:mN P T)(hp:wD a w β L I sto ρ)(ax:b9 T sto dst (.load t x) ρ h=some res)(cd:dw res.ob):cY P ⟨dst,.load t x,ty,pos,after,guard⟩ a β L I w res:=by
 simp only[b9] at ax
 split at ax
 ·rename_i d r off hd hx
  obtain⟨NM,b,mX,hv⟩:=hp.ev x _ hx
  split at ax
  ·rename_i cells hc
   obtain⟨v,h1,h2,h3⟩:=zY (hT t d hd) (hp.st r cells hc NM) mX ax cd
   obtain⟨e,new,ob⟩:=res
   subst h3
   refine cY.pure (ct rfl ?_) h2
   rw[hv]
   simp only[Instr.loadAt,Instr.sureAddr,Sem.run_bind,Sem.run_pure,Result.andThen_ok]
   exact h1
  ·cases ax
 ·rename_i d cells hd hx
  obtain⟨b,o,hv,hb,hc⟩:=hp.ev x _ hx
  cases ha:d.agg with
  |true =>
   simp only[ha,cond_true] at ax
   cases hs:Nat.ble d.size cells.length with
   |false=>simp[hs] at ax
   |true =>
    simp only[hs,cond_true] at ax
    rw[cp ax]
    have G7:d.size≤cells.length:=Nat.le_of_ble_eq_true hs
    obtain⟨v,h1,h2⟩:=qT (hT t d hd) ha (b:=b) (o:=o) (ps:=cells.take d.size) (by simp;omega) (fun j x hj=>by
     rw[List.getElem?_take] at hj
     split at hj
     ·exact hc j x hj
     ·cases hj)
    refine cY.pure (e := .pv _) (ct rfl ?_) h2
    rw[hv]
    simp only[Instr.loadAt,Instr.sureAddr,Sem.run_bind,Sem.run_pure,Result.andThen_ok]
    exact h1
  |false =>
   simp only[ha,cond_false] at ax
   split at ax
   ·rename_i p r
    rw[cp ax]
    obtain⟨_,u,h2,h3⟩:=hc 0 p rfl
    refine cY.pure (e := .pv p) (ct rfl ?_) h3
    rw[hv]
    simp only[Instr.loadAt,Instr.sureAddr,Sem.run_bind,Sem.run_pure,Result.andThen_ok]
    exact mO (hT t d hd) ha h2
   ·cases ax
 ·cases ax
theorem xE{x:Operand}(hp:wD a w β L I sto ρ)(ax:b9 T sto dst (.nilCheck x) ρ h=some res):cY P ⟨dst,.nilCheck x,ty,pos,after,guard⟩ a β L I w res:=by
 simp only[b9] at ax
 split at ax
 ·rename_i r off hx
  rw[cp ax]
  have he:=hp.ev x _ hx
  obtain⟨_,b,_,hv⟩:=he
  refine cY.pure ?_ (hp.ev x _ hx)
  simp only[execOp,hv]
  rfl
 ·rename_i c hx
  rw[cp ax]
  have he:=hp.ev x _ hx
  obtain⟨b,o,hv,_⟩:=he
  refine cY.pure ?_ (hp.ev x _ hx)
  simp only[execOp,hv]
  rfl
 ·rename_i r off hx
  rw[cp ax]
  have he:=hp.ev x _ hx
  obtain⟨_,b,_,hv⟩:=he
  refine cY.pure ?_ (hp.ev x _ hx)
  simp only[execOp,hv]
  rfl
 ·cases ax
theorem FQ{t:TypeId}{p:PV}(hT:mN P T)(ht:Jz T t p=true):Lv P t p:=by
 unfold Jz at ht
 unfold Lv
 split at ht
 ·split at ht
  ·rename_i d hd
   split at ht
   ·rename_i hk
    obtain⟨u,hu,_,hf⟩:=(hT t d hd).under
    rw[hk] at hf
    have hf:u = .bool:=hf
    subst hf;exact hu
   ·cases ht
  ·cases ht
 ·split at ht
  ·rename_i d hd
   split at ht
   ·rename_i hk
    obtain⟨u,hu,_,hf⟩:=(hT t d hd).under
    rw[hk] at hf
    obtain⟨ms,rfl⟩:∃ms,u = .interface ms:=hf
    exact⟨ms,hu⟩
   ·cases ht
  ·cases ht
 ·split at ht
  ·rename_i d hd
   split at ht
   ·rename_i hk
    obtain⟨u,hu,_,hf⟩:=(hT t d hd).under
    rw[hk] at hf
    obtain⟨ms,rfl⟩:∃ms,u = .interface ms:=hf
    exact⟨ms,hu⟩
   ·cases ht
  ·cases ht
 ·split at ht
  ·rename_i d hd
   rw[Bool.and_eq_true,Bool.not_eq_true'] at ht
   exact⟨d.Ja,(hT t d hd).Ja (fun e=>by rw[e] at ht;simp at ht),ht.2⟩
  ·cases ht
 ·split<;>first|trivial|(exfalso;simp_all)
theorem B7{op:BinOp}{t yt:TypeId}{x y:Operand}(hT:mN P T)(hp:wD a w β L I sto ρ)(ax:b9 T sto dst (.binOp op t x y yt) ρ h=some res)(cd:dw res.ob) :
  cY P ⟨dst,.binOp op t x y yt,ty,pos,after,guard⟩ a β L I w res:=by
 simp only[b9] at ax
 split at ax
 ·rename_i p q hx hy
  have FR:Rd I w p (a.eval x):=hp.ev x _ hx
  have R9:Rd I w q (a.eval y):=hp.ev y _ hy
  cases ht:Jz T t p with
  |false=>simp[ht] at ax
  |true =>
   simp only[ht,cond_true] at ax
   have KR:=FQ hT ht
   split at ax
   ·rename_i r
    injection ax with ax;subst ax
    obtain⟨v,h1,h2⟩:=zV w FR R9 cd KR
    exact cY.pure (e := .pv r) (ct rfl h1) h2
   ·split at ax
    ·rename_i r hs
     rw[cp ax]
     obtain⟨v,h1,h2⟩:=zV w FR R9 hs KR
     exact cY.pure (e := .pv r) (ct rfl h1) h2
    ·cases ax
 ·cases ax
theorem DN{op:UnOp}{t:TypeId}{x:Operand}(hp:wD a w β L I sto ρ)(ax:b9 T sto dst (.unOp op t x) ρ h=some res)(cd:dw res.ob) :
  cY P ⟨dst,.unOp op t x,ty,pos,after,guard⟩ a β L I w res:=by
 simp only[b9] at ax
 split at ax
 ·rename_i p hx
  have FR:Rd I w p (a.eval x):=hp.ev x _ hx
  split at ax
  ·rename_i r
   injection ax with ax;subst ax
   obtain⟨v,h1,h2⟩:=B0 (P:=P) w FR cd
   exact cY.pure (e := .pv r) (ct rfl h1) h2
  ·split at ax
   ·rename_i r hs
    rw[cp ax]
    obtain⟨v,h1,h2⟩:=B0 (P:=P) w FR hs
    exact cY.pure (e := .pv r) (ct rfl h1) h2
   ·cases ax
 ·cases ax
theorem zw{s t:TypeId}{x:Operand}(hT:mN P T)(hp:wD a w β L I sto ρ)(ax:b9 T sto dst (.convert s t x) ρ h=some res)(cd:dw res.ob) :
  cY P ⟨dst,.convert s t x,ty,pos,after,guard⟩ a β L I w res:=by
 simp only[b9] at ax
 split at ax
 ·rename_i ds d j n JD hd hx
  have FR:Rd I w (.int j n) (a.eval x):=hp.ev x _ hx
  have hv:a.eval x = .int j n:=by generalize a.eval x=v at FR;cases FR;rfl
  split at ax
  ·rename_i k hk
   obtain⟨u,hu,_,hf⟩:=(hT t d hd).under
   rw[hk] at hf
   have hf:u = .int k:=hf
   subst hf
   obtain⟨us,zv,_⟩:=(hT s ds JD).under
   have hr:(convert s t (a.eval x)).run P w = .ok (.int k (k.wrap n)) w:=by
    rw[hv]
    simp[convert,run_underlying hu,run_underlying zv,Conv.intToInt]
   split at ax
   ·rename_i k' m
    cases zt:decide (k=k') with
    |false=>simp[zt] at ax
    |true =>
     simp only[zt,cond_true] at ax
     injection ax with ax;subst ax
     have hw:k.wrap n=m:=cd
     rw[hw] at hr
     exact cY.pure (e := .pv _) (ct rfl hr) (Rd.int _ _)
   ·rw[cp ax]
    exact cY.pure (e := .pv _) (ct rfl hr) (Rd.int _ _)
  ·cases ax
 ·cases ax
theorem sB{t:TypeId}{x:Operand}(hT:mN P T)(hp:wD a w β L I sto ρ)(ax:b9 T sto dst (.makeInterface t x) ρ h=some res) :
  cY P ⟨dst,.makeInterface t x,ty,pos,after,guard⟩ a β L I w res:=by
 simp only[b9] at ax
 split at ax
 ·rename_i d p hd hx
  have FR:Rd I w p (a.eval x):=hp.ev x _ hx
  obtain⟨u,hu,_,hf⟩:=(hT t d hd).under
  have key:(∀ms,u ≠ .interface ms)→(Instr.makeInterface t (a.eval x)).run P w = .ok (.iface t (a.eval x)) w:=by
   intro iN
   cases u<;>first|(exact absurd rfl (iN _))|simp[Instr.makeInterface,run_underlying hu]
  split at ax
  ·cases ax
  ·cases ax
  ·rename_i h1 h2
   rw[cp ax]
   refine cY.pure (e := .pv _) (ct rfl (key fun ms e => ?_)) (Rd.iface _ _ _ FR)
   subst e
   cases hk:d.kind<;>rw[hk] at hf<;>simp only[TK.fits] at hf
   ·cases hf
   ·cases hf
   ·cases hf
   ·exact h1 hk
   ·cases hf
   ·obtain⟨ff,Jb,_⟩:=hf;cases Jb
   ·obtain⟨Jb,_⟩:=hf;cases Jb
   ·exact h2 hk
 ·cases ax
theorem wE{t:TypeId}{x y:Operand}(hT:mN P T)(hp:wD a w β L I sto ρ)(ax:b9 T sto dst (.makeSlice t x y) ρ h=some res)(cd:dw res.ob) :
  cY P ⟨dst,.makeSlice t x y,ty,pos,after,guard⟩ a β L I w res:=by
 simp only[b9] at ax
 split at ax
 ·rename_i d n n' r m out hd hx hy
  have FR:Rd I w (.int .i64 n) (a.eval x):=hp.ev x _ hx
  have Sa:Rd I w (.int .i64 n') (a.eval y):=hp.ev y _ hy
  have zm:a.eval x = .int .i64 n:=by generalize a.eval x=v at FR;cases FR;rfl
  have u4:a.eval y = .int .i64 n':=by generalize a.eval y=v at Sa;cases Sa;rfl
  split at ax
  ·rename_i e hk
   obtain⟨u,hu,_,hf⟩:=(hT t d hd).under
   rw[hk] at hf
   have hf:u = .slice e:=hf
   subst hf
   split at ax
   ·rename_i de oA
    obtain⟨i,hi,_,_,FT⟩:=(hT e de oA).run_typeInfo w
    obtain⟨z,hz,_,xx,hc⟩:=(hT e de oA).pD w
    have exec:n=(m:Int)→n'=(m:Int)→de.bytes*m≤140737488355328→m<9223372036854775808→1≤de.size →
      (Instr.makeSlice t (a.eval x) (a.eval y)).run P w = .ok (.slice (some ⟨w.heap.size,0,none⟩) m m) (w.alloc (.cells ((Array.range (m*de.size)).map (z.cells[·%z.cells.size]!)) e)):=by
     intro h1 h2 h3 h4 h5
     rw[zm,u4,h1,h2]
     have hw:IntKind.i64.wrap (m:Int)=m:=by
      have:=IntKind.wrap_i64 (m:Int)
      omega
     have hb:¬((de.bytes:Int)*(m:Int)>2^48):=by
      have FU:((de.bytes*m:Nat):Int)≤((140737488355328:Nat):Int):=Int.ofNat_le.2 h3
      rw[Int.natCast_mul] at FU
      intro h6
      have h7:((140737488355328:Nat):Int)=140737488355328:=rfl
      omega
     have NN:((((m:Int)<0||decide ((de.bytes:Int)*(m:Int)>2^48))||decide ((m:Int)<0))||decide ((m:Int)>(m:Int)))=false:=by
      simp only[Bool.or_eq_false_iff,decide_eq_false_iff_not]
      exact⟨⟨⟨by omega,hb⟩,by omega⟩,by omega⟩
     simp only[Instr.makeSlice,Sem.run_bind,run_underlying hu,Result.andThen_ok,asInt,asIntOf,Sem.run_pure,hi,FT,hw,NN,Bool.false_eq_true,if_false,run_askRoom,(hT e de oA).run_sizeOf w,Int.toNat_natCast]
     by_cases h0:m*de.size=0
     ·have hm:m=0:=by
       rcases Nat.mul_eq_zero.1 h0 with h|h
       ·exact h
       ·omega
      subst hm
      have Jd:∀f:Nat→Value,(Array.range 0).map f = #[]:=fun f=>by simp
      simp only[Nat.zero_mul,if_true,Sem.run_bind,Sem.run_pure,Result.andThen_ok,Jd]
      rfl
     ·simp only[h0,if_false,Sem.run_bind,hz,Result.andThen_ok,Sem.run_pure]
      rfl
    cases hs:Nat.ble 1 de.size with
    |false=>simp[hs] at ax
    |true =>
     simp only[hs,cond_true] at ax
     injection ax with ax;subst ax
     obtain⟨h1,cd⟩:=cd.cons
     obtain⟨h2,cd⟩:=cd.cons
     obtain⟨h3,cd⟩:=cd.cons
     obtain⟨h4,h5⟩:=cd.cons
     have h5:(List.replicate m (ij .none de)).flatten=out:=h5
     subst h5
     have G7:1≤de.size:=Nat.le_of_ble_eq_true hs
     have tc:bJ I w ((List.replicate m (ij .none de)).flatten) ((Array.range (m*de.size)).map (z.cells[·%z.cells.size]!)).toList:=xC ((hc I w).ij .none) m (m*de.size) (by rw[xx]) (by omega)
     refine⟨_,_,ct rfl (exec h1 h2 h3 h4 G7),ta.new hp.lb hp.ib (fun j c hj => ?_) (.inr ⟨m,de.size,rfl,rfl,by simp⟩)⟩
     obtain⟨u,g1,g2,g3⟩:=tc.pE (β:=β) (L:=L) j c hj
     exact⟨u,by rwa[Array.getElem?_toList] at g1,g2,g3⟩
   ·cases ax
  ·cases ax
 ·cases ax
end
end Go.Proofs.YtfjfekodeplcoaaGreat.Sym
