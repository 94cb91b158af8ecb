/- Bezout and Accepts of the program answer as the reference does. -/
import Derived.Test.YtboilcfohmmpbaaGreatDoorYSymF
namespace Go.Proofs.YtboilcfohmmpbaaGreatDoor.Sym
open Go Go.RowKit
section
variable {P:Program} {T:Tab} {a:Act} {w:World} {β:Nat→Option Nat} {L I:Nat→Prop} {sto:Sto} {ρ:Operand→Option EV} {h:Hint} {res:OpRes}
variable {dst:Option Tmp} {ty:TypeId} {pos:String} {after:Array Edge} {guard:Option (Nat×Bool)}
theorem opRun_load{t:TypeId}{x:Operand}(hT:TOk P T)(hp:Pre a w β L I sto ρ)(hrun:opRun T sto dst (.load t x) ρ h=some res)(hob:Alls res.ob):Does P ⟨dst,.load t x,ty,pos,after,guard⟩ a β L I w res:=by
 simp only[opRun] at hrun
 split at hrun
 ·rename_i d r off hd hx
  obtain⟨hLr,b,hbr,hv⟩:=hp.ev x _ hx
  split at hrun
  ·rename_i cells hc
   obtain⟨v,h1,h2,h3⟩:=load_site (hT t d hd) (hp.st r cells hc hLr) hbr hrun hob
   obtain⟨e,new,ob⟩:=res
   subst h3
   refine Does.pure (exec_ok rfl ?_) h2
   rw[hv]
   simp only[Instr.loadAt,Instr.sureAddr,Sem.run_bind,Sem.run_pure,Result.andThen_ok]
   exact h1
  ·cases hrun
 ·rename_i d cells hd hx
  obtain⟨b,o,hv,hb,hc⟩:=hp.ev x _ hx
  cases ha:d.agg with
  |true =>
   simp only[ha,cond_true] at hrun
   cases hs:Nat.ble d.size cells.length with
   |false=>simp[hs] at hrun
   |true =>
    simp only[hs,cond_true] at hrun
    rw[pure1_eq hrun]
    have hs':d.size≤cells.length:=Nat.le_of_ble_eq_true hs
    obtain⟨v,h1,h2⟩:=run_loadVar_agg (hT t d hd) ha (b:=b) (o:=o) (ps:=cells.take d.size) (by simp;omega) (fun j x hj=>by
     rw[List.getElem?_take] at hj
     split at hj
     ·exact hc j x hj
     ·cases hj)
    refine Does.pure (e := .pv _) (exec_ok rfl ?_) h2
    rw[hv]
    simp only[Instr.loadAt,Instr.sureAddr,Sem.run_bind,Sem.run_pure,Result.andThen_ok]
    exact h1
  |false =>
   simp only[ha,cond_false] at hrun
   split at hrun
   ·rename_i p r
    rw[pure1_eq hrun]
    obtain⟨_,u,h2,h3⟩:=hc 0 p rfl
    refine Does.pure (e := .pv p) (exec_ok rfl ?_) h3
    rw[hv]
    simp only[Instr.loadAt,Instr.sureAddr,Sem.run_bind,Sem.run_pure,Result.andThen_ok]
    exact run_loadVar_one (hT t d hd) ha h2
   ·cases hrun
 ·cases hrun
theorem opRun_nilCheck{x:Operand}(hp:Pre a w β L I sto ρ)(hrun:opRun T sto dst (.nilCheck x) ρ h=some res):Does P ⟨dst,.nilCheck x,ty,pos,after,guard⟩ a β L I w res:=by
 simp only[opRun] at hrun
 split at hrun
 ·rename_i r off hx
  rw[pure1_eq hrun]
  have he:=hp.ev x _ hx
  obtain⟨_,b,_,hv⟩:=he
  refine Does.pure ?_ (hp.ev x _ hx)
  simp only[execOp,hv]
  rfl
 ·rename_i c hx
  rw[pure1_eq hrun]
  have he:=hp.ev x _ hx
  obtain⟨b,o,hv,_⟩:=he
  refine Does.pure ?_ (hp.ev x _ hx)
  simp only[execOp,hv]
  rfl
 ·rename_i r off hx
  rw[pure1_eq hrun]
  have he:=hp.ev x _ hx
  obtain⟨_,b,_,hv⟩:=he
  refine Does.pure ?_ (hp.ev x _ hx)
  simp only[execOp,hv]
  rfl
 ·cases hrun
theorem tyOk_eqTy{t:TypeId}{p:PV}(hT:TOk P T)(ht:tyOk T t p=true):eqTy P t p:=by
 unfold tyOk at ht
 unfold eqTy
 split at ht
 ·split at ht
  ·rename_i d hd
   split at ht
   ·rename_i hk
    obtain⟨u,hu,_,hf⟩:=(hT t d hd).under
    rw[hk] at hf
    have hf:u = .bool:=hf
    subst hf;exact hu
   ·cases ht
  ·cases ht
 ·split at ht
  ·rename_i d hd
   split at ht
   ·rename_i hk
    obtain⟨u,hu,_,hf⟩:=(hT t d hd).under
    rw[hk] at hf
    obtain⟨ms,rfl⟩:∃ms,u = .interface ms:=hf
    exact⟨ms,hu⟩
   ·cases ht
  ·cases ht
 ·split at ht
  ·rename_i d hd
   split at ht
   ·rename_i hk
    obtain⟨u,hu,_,hf⟩:=(hT t d hd).under
    rw[hk] at hf
    obtain⟨ms,rfl⟩:∃ms,u = .interface ms:=hf
    exact⟨ms,hu⟩
   ·cases ht
  ·cases ht
 ·split<;>first|trivial|(exfalso;simp_all)
theorem opRun_binOp{op:BinOp}{t yt:TypeId}{x y:Operand}(hT:TOk P T)(hp:Pre a w β L I sto ρ)(hrun:opRun T sto dst (.binOp op t x y yt) ρ h=some res)(hob:Alls res.ob) :
  Does P ⟨dst,.binOp op t x y yt,ty,pos,after,guard⟩ a β L I w res:=by
 simp only[opRun] at hrun
 split at hrun
 ·rename_i p q hx hy
  have hpx:Rd I w p (a.eval x):=hp.ev x _ hx
  have hqy:Rd I w q (a.eval y):=hp.ev y _ hy
  cases ht:tyOk T t p with
  |false=>simp[ht] at hrun
  |true =>
   simp only[ht,cond_true] at hrun
   have hty:=tyOk_eqTy hT ht
   split at hrun
   ·rename_i r
    injection hrun with hrun;subst hrun
    obtain⟨v,h1,h2⟩:=run_binOp w hpx hqy hob hty
    exact Does.pure (e := .pv r) (exec_ok rfl h1) h2
   ·split at hrun
    ·rename_i r hs
     rw[pure1_eq hrun]
     obtain⟨v,h1,h2⟩:=run_binOp w hpx hqy hs hty
     exact Does.pure (e := .pv r) (exec_ok rfl h1) h2
    ·cases hrun
 ·cases hrun
theorem opRun_unOp{op:UnOp}{t:TypeId}{x:Operand}(hp:Pre a w β L I sto ρ)(hrun:opRun T sto dst (.unOp op t x) ρ h=some res)(hob:Alls res.ob) :
  Does P ⟨dst,.unOp op t x,ty,pos,after,guard⟩ a β L I w res:=by
 simp only[opRun] at hrun
 split at hrun
 ·rename_i p hx
  have hpx:Rd I w p (a.eval x):=hp.ev x _ hx
  split at hrun
  ·rename_i r
   injection hrun with hrun;subst hrun
   obtain⟨v,h1,h2⟩:=run_unOp (P:=P) w hpx hob
   exact Does.pure (e := .pv r) (exec_ok rfl h1) h2
  ·split at hrun
   ·rename_i r hs
    rw[pure1_eq hrun]
    obtain⟨v,h1,h2⟩:=run_unOp (P:=P) w hpx hs
    exact Does.pure (e := .pv r) (exec_ok rfl h1) h2
   ·cases hrun
 ·cases hrun
theorem opRun_convert{s t:TypeId}{x:Operand}(hT:TOk P T)(hp:Pre a w β L I sto ρ)(hrun:opRun T sto dst (.convert s t x) ρ h=some res)(hob:Alls res.ob) :
  Does P ⟨dst,.convert s t x,ty,pos,after,guard⟩ a β L I w res:=by
 simp only[opRun] at hrun
 split at hrun
 ·rename_i ds d j n hds hd hx
  have hpx:Rd I w (.int j n) (a.eval x):=hp.ev x _ hx
  have hv:a.eval x = .int j n:=by generalize a.eval x=v at hpx;cases hpx;rfl
  split at hrun
  ·rename_i k hk
   obtain⟨u,hu,_,hf⟩:=(hT t d hd).under
   rw[hk] at hf
   have hf:u = .int k:=hf
   subst hf
   obtain⟨us,hus,_⟩:=(hT s ds hds).under
   have hr:(convert s t (a.eval x)).run P w = .ok (.int k (k.wrap n)) w:=by
    rw[hv]
    simp[convert,run_underlying hu,run_underlying hus,Conv.intToInt]
   split at hrun
   ·rename_i k' m
    cases hkk:decide (k=k') with
    |false=>simp[hkk] at hrun
    |true =>
     simp only[hkk,cond_true] at hrun
     injection hrun with hrun;subst hrun
     have hw:k.wrap n=m:=hob
     rw[hw] at hr
     exact Does.pure (e := .pv _) (exec_ok rfl hr) (Rd.int _ _)
   ·rw[pure1_eq hrun]
    exact Does.pure (e := .pv _) (exec_ok rfl hr) (Rd.int _ _)
  ·cases hrun
 ·cases hrun
theorem opRun_makeInterface{t:TypeId}{x:Operand}(hT:TOk P T)(hp:Pre a w β L I sto ρ)(hrun:opRun T sto dst (.makeInterface t x) ρ h=some res) :
  Does P ⟨dst,.makeInterface t x,ty,pos,after,guard⟩ a β L I w res:=by
 simp only[opRun] at hrun
 split at hrun
 ·rename_i d p hd hx
  have hpx:Rd I w p (a.eval x):=hp.ev x _ hx
  obtain⟨u,hu,_,hf⟩:=(hT t d hd).under
  have key:(∀ms,u ≠ .interface ms)→(Instr.makeInterface t (a.eval x)).run P w = .ok (.iface t (a.eval x)) w:=by
   intro hne
   cases u<;>first|(exact absurd rfl (hne _))|simp[Instr.makeInterface,run_underlying hu]
  split at hrun
  ·cases hrun
  ·cases hrun
  ·rename_i h1 h2
   rw[pure1_eq hrun]
   refine Does.pure (e := .pv _) (exec_ok rfl (key fun ms e => ?_)) (Rd.iface _ _ _ hpx)
   subst e
   cases hk:d.kind<;>rw[hk] at hf<;>simp only[TK.fits] at hf
   ·cases hf
   ·cases hf
   ·cases hf
   ·exact h1 hk
   ·cases hf
   ·obtain⟨ff,hff,_⟩:=hf;cases hff
   ·obtain⟨hff,_⟩:=hf;cases hff
   ·exact h2 hk
 ·cases hrun
theorem opRun_makeSlice{t:TypeId}{x y:Operand}(hT:TOk P T)(hp:Pre a w β L I sto ρ)(hrun:opRun T sto dst (.makeSlice t x y) ρ h=some res)(hob:Alls res.ob) :
  Does P ⟨dst,.makeSlice t x y,ty,pos,after,guard⟩ a β L I w res:=by
 simp only[opRun] at hrun
 split at hrun
 ·rename_i d n n' r m out hd hx hy
  have hpx:Rd I w (.int .i64 n) (a.eval x):=hp.ev x _ hx
  have hpy:Rd I w (.int .i64 n') (a.eval y):=hp.ev y _ hy
  have hvx:a.eval x = .int .i64 n:=by generalize a.eval x=v at hpx;cases hpx;rfl
  have hvy:a.eval y = .int .i64 n':=by generalize a.eval y=v at hpy;cases hpy;rfl
  split at hrun
  ·rename_i e hk
   obtain⟨u,hu,_,hf⟩:=(hT t d hd).under
   rw[hk] at hf
   have hf:u = .slice e:=hf
   subst hf
   split at hrun
   ·rename_i de hde
    obtain⟨i,hi,_,_,hib⟩:=(hT e de hde).run_typeInfo w
    obtain⟨z,hz,_,hzs,hc⟩:=(hT e de hde).run_zero w
    have exec:n=(m:Int)→n'=(m:Int)→de.bytes*m≤140737488355328→m<9223372036854775808→1≤de.size →
      (Instr.makeSlice t (a.eval x) (a.eval y)).run P w = .ok (.slice (some ⟨w.heap.size,0,none⟩) m m) (w.alloc (.cells ((Array.range (m*de.size)).map (z.cells[·%z.cells.size]!)) e)):=by
     intro h1 h2 h3 h4 h5
     rw[hvx,hvy,h1,h2]
     have hw:IntKind.i64.wrap (m:Int)=m:=by
      have:=IntKind.wrap_i64 (m:Int)
      omega
     have hb:¬((de.bytes:Int)*(m:Int)>2^48):=by
      have h3':((de.bytes*m:Nat):Int)≤((140737488355328:Nat):Int):=Int.ofNat_le.2 h3
      rw[Int.natCast_mul] at h3'
      intro h6
      have h7:((140737488355328:Nat):Int)=140737488355328:=rfl
      omega
     have hcond:((((m:Int)<0||decide ((de.bytes:Int)*(m:Int)>2^48))||decide ((m:Int)<0))||decide ((m:Int)>(m:Int)))=false:=by
      simp only[Bool.or_eq_false_iff,decide_eq_false_iff_not]
      exact⟨⟨⟨by omega,hb⟩,by omega⟩,by omega⟩
     simp only[Instr.makeSlice,Sem.run_bind,run_underlying hu,Result.andThen_ok,asInt,asIntOf,Sem.run_pure,hi,hib,hw,hcond,Bool.false_eq_true,if_false,run_askRoom,(hT e de hde).run_sizeOf w,Int.toNat_natCast]
     by_cases h0:m*de.size=0
     ·have hm:m=0:=by
       rcases Nat.mul_eq_zero.1 h0 with h|h
       ·exact h
       ·omega
      subst hm
      have hr0:∀f:Nat→Value,(Array.range 0).map f = #[]:=fun f=>by simp
      simp only[Nat.zero_mul,if_true,Sem.run_bind,Sem.run_pure,Result.andThen_ok,hr0]
      rfl
     ·simp only[h0,if_false,Sem.run_bind,hz,Result.andThen_ok,Sem.run_pure]
      rfl
    cases hs:Nat.ble 1 de.size with
    |false=>simp[hs] at hrun
    |true =>
     simp only[hs,cond_true] at hrun
     injection hrun with hrun;subst hrun
     obtain⟨h1,hob⟩:=hob.cons
     obtain⟨h2,hob⟩:=hob.cons
     obtain⟨h3,hob⟩:=hob.cons
     obtain⟨h4,h5⟩:=hob.cons
     have h5:(List.replicate m (zeroH .none de)).flatten=out:=h5
     subst h5
     have hs':1≤de.size:=Nat.le_of_ble_eq_true hs
     have hrd:RdCells I w ((List.replicate m (zeroH .none de)).flatten) ((Array.range (m*de.size)).map (z.cells[·%z.cells.size]!)).toList:=zeros_rd ((hc I w).zeroH .none) m (m*de.size) (by rw[hzs]) (by omega)
     refine⟨_,_,exec_ok rfl (exec h1 h2 h3 h4 hs'),Post.new hp.lb hp.ib (fun j c hj => ?_) (.inr ⟨m,de.size,rfl,rfl,by simp⟩)⟩
     obtain⟨u,g1,g2,g3⟩:=hrd.evs (β:=β) (L:=L) j c hj
     exact⟨u,by rwa[Array.getElem?_toList] at g1,g2,g3⟩
   ·cases hrun
  ·cases hrun
 ·cases hrun
end
end Go.Proofs.YtboilcfohmmpbaaGreatDoor.Sym
