/- Lemmas for the statements of this seat. -/
import Derived.Test.YtllmkadmohkbfaaGreatDoorWSymF
namespace Go.Proofs.YtllmkadmohkbfaaGreatDoor.Sym
open Go Go.RowKit
section
variable {P:Program} {T:qU} {a:Act} {w:World} {β:Nat→Option Nat} {L I:Nat→Prop} {bp:cq} {ρ:Operand→Option EV} {h:Hint} {res:uC}
variable {dst:Option Tmp} {ty:TypeId} {pos:String} {after:Array Edge} {guard:Option (Nat×Bool)}
theorem Ms{t:TypeId}{x:Operand}(hT:uj P T)(hp:Fk a w β L I bp ρ)(aH:fF T bp dst (.load t x) ρ h=some res)(fK:je res.ob):im P ⟨dst,.load t x,ty,pos,after,guard⟩ a β L I w res:=by
 simp only[fF] at aH
 split at aH
 ·rename_i d r off hd hx
  obtain⟨WH,b,uI,hv⟩:=hp.ev x _ hx
  split at aH
  ·rename_i cells hc
   obtain⟨v,h1,h2,h3⟩:=IM (hT t d hd) (hp.st r cells hc WH) uI aH fK
   obtain⟨e,new,ob⟩:=res
   subst h3
   refine im.pure (gz rfl ?_) h2
   rw[hv]
   simp only[Instr.loadAt,Instr.sureAddr,Sem.run_bind,Sem.run_pure,Result.andThen_ok]
   exact h1
  ·cases aH
 ·rename_i d cells hd hx
  obtain⟨b,o,hv,hb,hc⟩:=hp.ev x _ hx
  cases ha:d.agg with
  |true =>
   simp only[ha,cond_true] at aH
   cases hs:Nat.ble d.size cells.length with
   |false=>simp[hs] at aH
   |true =>
    simp only[hs,cond_true] at aH
    rw[gi aH]
    have Jx:d.size≤cells.length:=Nat.le_of_ble_eq_true hs
    obtain⟨v,h1,h2⟩:=zx (hT t d hd) ha (b:=b) (o:=o) (ps:=cells.take d.size) (by simp;omega) (fun j x hj=>by
     rw[List.getElem?_take] at hj
     split at hj
     ·exact hc j x hj
     ·cases hj)
    refine im.pure (e := .pv _) (gz rfl ?_) h2
    rw[hv]
    simp only[Instr.loadAt,Instr.sureAddr,Sem.run_bind,Sem.run_pure,Result.andThen_ok]
    exact h1
  |false =>
   simp only[ha,cond_false] at aH
   split at aH
   ·rename_i p r
    rw[gi aH]
    obtain⟨_,u,h2,h3⟩:=hc 0 p rfl
    refine im.pure (e := .pv p) (gz rfl ?_) h3
    rw[hv]
    simp only[Instr.loadAt,Instr.sureAddr,Sem.run_bind,Sem.run_pure,Result.andThen_ok]
    exact uk (hT t d hd) ha h2
   ·cases aH
 ·cases aH
theorem Gj{x:Operand}(hp:Fk a w β L I bp ρ)(aH:fF T bp dst (.nilCheck x) ρ h=some res):im P ⟨dst,.nilCheck x,ty,pos,after,guard⟩ a β L I w res:=by
 simp only[fF] at aH
 split at aH
 ·rename_i r off hx
  rw[gi aH]
  have he:=hp.ev x _ hx
  obtain⟨_,b,_,hv⟩:=he
  refine im.pure ?_ (hp.ev x _ hx)
  simp only[execOp,hv]
  rfl
 ·rename_i c hx
  rw[gi aH]
  have he:=hp.ev x _ hx
  obtain⟨b,o,hv,_⟩:=he
  refine im.pure ?_ (hp.ev x _ hx)
  simp only[execOp,hv]
  rfl
 ·rename_i r off hx
  rw[gi aH]
  have he:=hp.ev x _ hx
  obtain⟨_,b,_,hv⟩:=he
  refine im.pure ?_ (hp.ev x _ hx)
  simp only[execOp,hv]
  rfl
 ·cases aH
theorem O1{t:TypeId}{p:PV}(hT:uj P T)(ht:Sl T t p=true):Un P t p:=by
 unfold Sl at ht
 unfold Un
 split at ht
 ·split at ht
  ·rename_i d hd
   split at ht
   ·rename_i hk
    obtain⟨u,hu,_,hf⟩:=(hT t d hd).under
    rw[hk] at hf
    have hf:u = .bool:=hf
    subst hf;exact hu
   ·cases ht
  ·cases ht
 ·split at ht
  ·rename_i d hd
   split at ht
   ·rename_i hk
    obtain⟨u,hu,_,hf⟩:=(hT t d hd).under
    rw[hk] at hf
    obtain⟨ms,rfl⟩:∃ms,u = .interface ms:=hf
    exact⟨ms,hu⟩
   ·cases ht
  ·cases ht
 ·split at ht
  ·rename_i d hd
   split at ht
   ·rename_i hk
    obtain⟨u,hu,_,hf⟩:=(hT t d hd).under
    rw[hk] at hf
    obtain⟨ms,rfl⟩:∃ms,u = .interface ms:=hf
    exact⟨ms,hu⟩
   ·cases ht
  ·cases ht
 ·split<;>first|trivial|(exfalso;simp_all)
theorem KG{op:BinOp}{t yt:TypeId}{x y:Operand}(hT:uj P T)(hp:Fk a w β L I bp ρ)(aH:fF T bp dst (.binOp op t x y yt) ρ h=some res)(fK:je res.ob) :
  im P ⟨dst,.binOp op t x y yt,ty,pos,after,guard⟩ a β L I w res:=by
 simp only[fF] at aH
 split at aH
 ·rename_i p q hx hy
  have O2:Rd I w p (a.eval x):=hp.ev x _ hx
  have hqy:Rd I w q (a.eval y):=hp.ev y _ hy
  cases ht:Sl T t p with
  |false=>simp[ht] at aH
  |true =>
   simp only[ht,cond_true] at aH
   have hty:=O1 hT ht
   split at aH
   ·rename_i r
    injection aH with aH;subst aH
    obtain⟨v,h1,h2⟩:=IJ w O2 hqy fK hty
    exact im.pure (e := .pv r) (gz rfl h1) h2
   ·split at aH
    ·rename_i r hs
     rw[gi aH]
     obtain⟨v,h1,h2⟩:=IJ w O2 hqy hs hty
     exact im.pure (e := .pv r) (gz rfl h1) h2
    ·cases aH
 ·cases aH
theorem Mt{op:UnOp}{t:TypeId}{x:Operand}(hp:Fk a w β L I bp ρ)(aH:fF T bp dst (.unOp op t x) ρ h=some res)(fK:je res.ob) :
  im P ⟨dst,.unOp op t x,ty,pos,after,guard⟩ a β L I w res:=by
 simp only[fF] at aH
 split at aH
 ·rename_i p hx
  have O2:Rd I w p (a.eval x):=hp.ev x _ hx
  split at aH
  ·rename_i r
   injection aH with aH;subst aH
   obtain⟨v,h1,h2⟩:=KA (P:=P) w O2 fK
   exact im.pure (e := .pv r) (gz rfl h1) h2
  ·split at aH
   ·rename_i r hs
    rw[gi aH]
    obtain⟨v,h1,h2⟩:=KA (P:=P) w O2 hs
    exact im.pure (e := .pv r) (gz rfl h1) h2
   ·cases aH
 ·cases aH
theorem Ie{s t:TypeId}{x:Operand}(hT:uj P T)(hp:Fk a w β L I bp ρ)(aH:fF T bp dst (.convert s t x) ρ h=some res)(fK:je res.ob) :
  im P ⟨dst,.convert s t x,ty,pos,after,guard⟩ a β L I w res:=by
 simp only[fF] at aH
 split at aH
 ·rename_i ds d j n Sr hd hx
  have O2:Rd I w (.int j n) (a.eval x):=hp.ev x _ hx
  have hv:a.eval x = .int j n:=by generalize a.eval x=v at O2;cases O2;rfl
  split at aH
  ·rename_i k hk
   obtain⟨u,hu,_,hf⟩:=(hT t d hd).under
   rw[hk] at hf
   have hf:u = .int k:=hf
   subst hf
   obtain⟨us,Jw,_⟩:=(hT s ds Sr).under
   have hr:(convert s t (a.eval x)).run P w = .ok (.int k (k.wrap n)) w:=by
    rw[hv]
    simp[convert,run_underlying hu,run_underlying Jw,Conv.intToInt]
   split at aH
   ·rename_i k' m
    cases hkk:decide (k=k') with
    |false=>simp[hkk] at aH
    |true =>
     simp only[hkk,cond_true] at aH
     injection aH with aH;subst aH
     have hw:k.wrap n=m:=fK
     rw[hw] at hr
     exact im.pure (e := .pv _) (gz rfl hr) (Rd.int _ _)
   ·rw[gi aH]
    exact im.pure (e := .pv _) (gz rfl hr) (Rd.int _ _)
  ·cases aH
 ·cases aH
theorem Ba{t:TypeId}{x:Operand}(hT:uj P T)(hp:Fk a w β L I bp ρ)(aH:fF T bp dst (.makeInterface t x) ρ h=some res) :
  im P ⟨dst,.makeInterface t x,ty,pos,after,guard⟩ a β L I w res:=by
 simp only[fF] at aH
 split at aH
 ·rename_i d p hd hx
  have O2:Rd I w p (a.eval x):=hp.ev x _ hx
  obtain⟨u,hu,_,hf⟩:=(hT t d hd).under
  have key:(∀ms,u ≠ .interface ms)→(Instr.makeInterface t (a.eval x)).run P w = .ok (.iface t (a.eval x)) w:=by
   intro dk
   cases u<;>first|(exact absurd rfl (dk _))|simp[Instr.makeInterface,run_underlying hu]
  split at aH
  ·cases aH
  ·cases aH
  ·rename_i h1 h2
   rw[gi aH]
   refine im.pure (e := .pv _) (gz rfl (key fun ms e => ?_)) (Rd.iface _ _ _ O2)
   subst e
   cases hk:d.kind<;>rw[hk] at hf<;>simp only[TK.fits] at hf
   ·cases hf
   ·cases hf
   ·cases hf
   ·exact h1 hk
   ·cases hf
   ·obtain⟨ff,FG,_⟩:=hf;cases FG
   ·obtain⟨FG,_⟩:=hf;cases FG
   ·exact h2 hk
 ·cases aH
theorem Fm{t:TypeId}{x y:Operand}(hT:uj P T)(hp:Fk a w β L I bp ρ)(aH:fF T bp dst (.makeSlice t x y) ρ h=some res)(fK:je res.ob) :
  im P ⟨dst,.makeSlice t x y,ty,pos,after,guard⟩ a β L I w res:=by
 simp only[fF] at aH
 split at aH
 ·rename_i d n n' r m out hd hx hy
  have O2:Rd I w (.int .i64 n) (a.eval x):=hp.ev x _ hx
  have hpy:Rd I w (.int .i64 n') (a.eval y):=hp.ev y _ hy
  have H7:a.eval x = .int .i64 n:=by generalize a.eval x=v at O2;cases O2;rfl
  have DT:a.eval y = .int .i64 n':=by generalize a.eval y=v at hpy;cases hpy;rfl
  split at aH
  ·rename_i e hk
   obtain⟨u,hu,_,hf⟩:=(hT t d hd).under
   rw[hk] at hf
   have hf:u = .slice e:=hf
   subst hf
   split at aH
   ·rename_i de u5
    obtain⟨i,hi,_,_,YF⟩:=(hT e de u5).run_typeInfo w
    obtain⟨z,hz,_,Mm,hc⟩:=(hT e de u5).zL w
    have exec:n=(m:Int)→n'=(m:Int)→de.bytes*m≤140737488355328→m<9223372036854775808→1≤de.size →
      (Instr.makeSlice t (a.eval x) (a.eval y)).run P w = .ok (.slice (some ⟨w.heap.size,0,none⟩) m m) (w.alloc (.cells ((Array.range (m*de.size)).map (z.cells[·%z.cells.size]!)) e)):=by
     intro h1 h2 h3 h4 h5
     rw[H7,DT,h1,h2]
     have hw:IntKind.i64.wrap (m:Int)=m:=by
      have:=IntKind.wrap_i64 (m:Int)
      omega
     have hb:¬((de.bytes:Int)*(m:Int)>2^48):=by
      have Qa:((de.bytes*m:Nat):Int)≤((140737488355328:Nat):Int):=Int.ofNat_le.2 h3
      rw[Int.natCast_mul] at Qa
      intro h6
      have h7:((140737488355328:Nat):Int)=140737488355328:=rfl
      omega
     have WI:((((m:Int)<0||decide ((de.bytes:Int)*(m:Int)>2^48))||decide ((m:Int)<0))||decide ((m:Int)>(m:Int)))=false:=by
      simp only[Bool.or_eq_false_iff,decide_eq_false_iff_not]
      exact⟨⟨⟨by omega,hb⟩,by omega⟩,by omega⟩
     simp only[Instr.makeSlice,Sem.run_bind,run_underlying hu,Result.andThen_ok,asInt,asIntOf,Sem.run_pure,hi,YF,hw,WI,Bool.false_eq_true,if_false,run_askRoom,(hT e de u5).run_sizeOf w,Int.toNat_natCast]
     by_cases h0:m*de.size=0
     ·have hm:m=0:=by
       rcases Nat.mul_eq_zero.1 h0 with h|h
       ·exact h
       ·omega
      subst hm
      have IN:∀f:Nat→Value,(Array.range 0).map f = #[]:=fun f=>by simp
      simp only[Nat.zero_mul,if_true,Sem.run_bind,Sem.run_pure,Result.andThen_ok,IN]
      rfl
     ·simp only[h0,if_false,Sem.run_bind,hz,Result.andThen_ok,Sem.run_pure]
      rfl
    cases hs:Nat.ble 1 de.size with
    |false=>simp[hs] at aH
    |true =>
     simp only[hs,cond_true] at aH
     injection aH with aH;subst aH
     obtain⟨h1,fK⟩:=fK.cons
     obtain⟨h2,fK⟩:=fK.cons
     obtain⟨h3,fK⟩:=fK.cons
     obtain⟨h4,h5⟩:=fK.cons
     have h5:(List.replicate m (qk .none de)).flatten=out:=h5
     subst h5
     have Jx:1≤de.size:=Nat.le_of_ble_eq_true hs
     have A9:eh I w ((List.replicate m (qk .none de)).flatten) ((Array.range (m*de.size)).map (z.cells[·%z.cells.size]!)).toList:=Gh ((hc I w).qk .none) m (m*de.size) (by rw[Mm]) (by omega)
     refine⟨_,_,gz rfl (exec h1 h2 h3 h4 Jx),BC.new hp.lb hp.ib (fun j c hj => ?_) (.inr ⟨m,de.size,rfl,rfl,by simp⟩)⟩
     obtain⟨u,g1,g2,g3⟩:=A9.zw (β:=β) (L:=L) j c hj
     exact⟨u,by rwa[Array.getElem?_toList] at g1,g2,g3⟩
   ·cases aH
  ·cases aH
 ·cases aH
end
end Go.Proofs.YtllmkadmohkbfaaGreatDoor.Sym
