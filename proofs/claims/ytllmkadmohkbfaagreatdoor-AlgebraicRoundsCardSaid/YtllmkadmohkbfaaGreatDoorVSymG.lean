/- Lemmas for the statements of this seat. -/
import Derived.Test.YtllmkadmohkbfaaGreatDoorVSymF
namespace Go.Proofs.YtllmkadmohkbfaaGreatDoor.Sym
open Go Go.RowKit
section
variable {P:Program} {T:kL} {a:Act} {w:World} {β:Nat→Option Nat} {L I:Nat→Prop} {aG:aS} {ρ:Operand→Option EV} {h:Hint} {res:nZ}
variable {dst:Option Tmp} {ty:TypeId} {pos:String} {after:Array Edge} {guard:Option (Nat×Bool)}
theorem HE{t:TypeId}{x:Operand}(hT:nM P T)(hp:zG a w β L I aG ρ)(aq:cf T aG dst (.load t x) ρ h=some res)(cr:dP res.ob):dq P ⟨dst,.load t x,ty,pos,after,guard⟩ a β L I w res:=by
 simp only[cf] at aq
 split at aq
 ·rename_i d r off hd hx
  obtain⟨Ta,b,oe,hv⟩:=hp.ev x _ hx
  split at aq
  ·rename_i cells hc
   obtain⟨v,h1,h2,h3⟩:=C2 (hT t d hd) (hp.st r cells hc Ta) oe aq cr
   obtain⟨e,new,ob⟩:=res
   subst h3
   refine dq.pure (cM rfl ?_) h2
   rw[hv]
   simp only[Instr.loadAt,Instr.sureAddr,Sem.run_bind,Sem.run_pure,Result.andThen_ok]
   exact h1
  ·cases aq
 ·rename_i d cells hd hx
  obtain⟨b,o,hv,hb,hc⟩:=hp.ev x _ hx
  cases ha:d.agg with
  |true =>
   simp only[ha,cond_true] at aq
   cases hs:Nat.ble d.size cells.length with
   |false=>simp[hs] at aq
   |true =>
    simp only[hs,cond_true] at aq
    rw[cJ aq]
    have Kk:d.size≤cells.length:=Nat.le_of_ble_eq_true hs
    obtain⟨v,h1,h2⟩:=sF (hT t d hd) ha (b:=b) (o:=o) (ps:=cells.take d.size) (by simp;omega) (fun j x hj=>by
     rw[List.getElem?_take] at hj
     split at hj
     ·exact hc j x hj
     ·cases hj)
    refine dq.pure (e := .pv _) (cM rfl ?_) h2
    rw[hv]
    simp only[Instr.loadAt,Instr.sureAddr,Sem.run_bind,Sem.run_pure,Result.andThen_ok]
    exact h1
  |false =>
   simp only[ha,cond_false] at aq
   split at aq
   ·rename_i p r
    rw[cJ aq]
    obtain⟨_,u,h2,h3⟩:=hc 0 p rfl
    refine dq.pure (e := .pv p) (cM rfl ?_) h3
    rw[hv]
    simp only[Instr.loadAt,Instr.sureAddr,Sem.run_bind,Sem.run_pure,Result.andThen_ok]
    exact nN (hT t d hd) ha h2
   ·cases aq
 ·cases aq
theorem AK{x:Operand}(hp:zG a w β L I aG ρ)(aq:cf T aG dst (.nilCheck x) ρ h=some res):dq P ⟨dst,.nilCheck x,ty,pos,after,guard⟩ a β L I w res:=by
 simp only[cf] at aq
 split at aq
 ·rename_i r off hx
  rw[cJ aq]
  have he:=hp.ev x _ hx
  obtain⟨_,b,_,hv⟩:=he
  refine dq.pure ?_ (hp.ev x _ hx)
  simp only[execOp,hv]
  rfl
 ·rename_i c hx
  rw[cJ aq]
  have he:=hp.ev x _ hx
  obtain⟨b,o,hv,_⟩:=he
  refine dq.pure ?_ (hp.ev x _ hx)
  simp only[execOp,hv]
  rfl
 ·rename_i r off hx
  rw[cJ aq]
  have he:=hp.ev x _ hx
  obtain⟨_,b,_,hv⟩:=he
  refine dq.pure ?_ (hp.ev x _ hx)
  simp only[execOp,hv]
  rfl
 ·cases aq
theorem Kl{t:TypeId}{p:PV}(hT:nM P T)(ht:Ob T t p=true):QA P t p:=by
 unfold Ob at ht
 unfold QA
 split at ht
 ·split at ht
  ·rename_i d hd
   split at ht
   ·rename_i hk
    obtain⟨u,hu,_,hf⟩:=(hT t d hd).under
    rw[hk] at hf
    have hf:u = .bool:=hf
    subst hf;exact hu
   ·cases ht
  ·cases ht
 ·split at ht
  ·rename_i d hd
   split at ht
   ·rename_i hk
    obtain⟨u,hu,_,hf⟩:=(hT t d hd).under
    rw[hk] at hf
    obtain⟨ms,rfl⟩:∃ms,u = .interface ms:=hf
    exact⟨ms,hu⟩
   ·cases ht
  ·cases ht
 ·split at ht
  ·rename_i d hd
   split at ht
   ·rename_i hk
    obtain⟨u,hu,_,hf⟩:=(hT t d hd).under
    rw[hk] at hf
    obtain⟨ms,rfl⟩:∃ms,u = .interface ms:=hf
    exact⟨ms,hu⟩
   ·cases ht
  ·cases ht
 ·split<;>first|trivial|(exfalso;simp_all)
theorem Fx{op:BinOp}{t yt:TypeId}{x y:Operand}(hT:nM P T)(hp:zG a w β L I aG ρ)(aq:cf T aG dst (.binOp op t x y yt) ρ h=some res)(cr:dP res.ob) :
  dq P ⟨dst,.binOp op t x y yt,ty,pos,after,guard⟩ a β L I w res:=by
 simp only[cf] at aq
 split at aq
 ·rename_i p q hx hy
  have Km:Rd I w p (a.eval x):=hp.ev x _ hx
  have X1:Rd I w q (a.eval y):=hp.ev y _ hy
  cases ht:Ob T t p with
  |false=>simp[ht] at aq
  |true =>
   simp only[ht,cond_true] at aq
   have X2:=Kl hT ht
   split at aq
   ·rename_i r
    injection aq with aq;subst aq
    obtain⟨v,h1,h2⟩:=CZ w Km X1 cr X2
    exact dq.pure (e := .pv r) (cM rfl h1) h2
   ·split at aq
    ·rename_i r hs
     rw[cJ aq]
     obtain⟨v,h1,h2⟩:=CZ w Km X1 hs X2
     exact dq.pure (e := .pv r) (cM rfl h1) h2
    ·cases aq
 ·cases aq
theorem HF{op:UnOp}{t:TypeId}{x:Operand}(hp:zG a w β L I aG ρ)(aq:cf T aG dst (.unOp op t x) ρ h=some res)(cr:dP res.ob) :
  dq P ⟨dst,.unOp op t x,ty,pos,after,guard⟩ a β L I w res:=by
 simp only[cf] at aq
 split at aq
 ·rename_i p hx
  have Km:Rd I w p (a.eval x):=hp.ev x _ hx
  split at aq
  ·rename_i r
   injection aq with aq;subst aq
   obtain⟨v,h1,h2⟩:=Fp (P:=P) w Km cr
   exact dq.pure (e := .pv r) (cM rfl h1) h2
  ·split at aq
   ·rename_i r hs
    rw[cJ aq]
    obtain⟨v,h1,h2⟩:=Fp (P:=P) w Km hs
    exact dq.pure (e := .pv r) (cM rfl h1) h2
   ·cases aq
 ·cases aq
theorem Cz{s t:TypeId}{x:Operand}(hT:nM P T)(hp:zG a w β L I aG ρ)(aq:cf T aG dst (.convert s t x) ρ h=some res)(cr:dP res.ob) :
  dq P ⟨dst,.convert s t x,ty,pos,after,guard⟩ a β L I w res:=by
 simp only[cf] at aq
 split at aq
 ·rename_i ds d j n Oh hd hx
  have Km:Rd I w (.int j n) (a.eval x):=hp.ev x _ hx
  have hv:a.eval x = .int j n:=by generalize a.eval x=v at Km;cases Km;rfl
  split at aq
  ·rename_i k hk
   obtain⟨u,hu,_,hf⟩:=(hT t d hd).under
   rw[hk] at hf
   have hf:u = .int k:=hf
   subst hf
   obtain⟨us,D3,_⟩:=(hT s ds Oh).under
   have hr:(convert s t (a.eval x)).run P w = .ok (.int k (k.wrap n)) w:=by
    rw[hv]
    simp[convert,run_underlying hu,run_underlying D3,Conv.intToInt]
   split at aq
   ·rename_i k' m
    cases hkk:decide (k=k') with
    |false=>simp[hkk] at aq
    |true =>
     simp only[hkk,cond_true] at aq
     injection aq with aq;subst aq
     have hw:k.wrap n=m:=cr
     rw[hw] at hr
     exact dq.pure (e := .pv _) (cM rfl hr) (Rd.int _ _)
   ·rw[cJ aq]
    exact dq.pure (e := .pv _) (cM rfl hr) (Rd.int _ _)
  ·cases aq
 ·cases aq
theorem uF{t:TypeId}{x:Operand}(hT:nM P T)(hp:zG a w β L I aG ρ)(aq:cf T aG dst (.makeInterface t x) ρ h=some res) :
  dq P ⟨dst,.makeInterface t x,ty,pos,after,guard⟩ a β L I w res:=by
 simp only[cf] at aq
 split at aq
 ·rename_i d p hd hx
  have Km:Rd I w p (a.eval x):=hp.ev x _ hx
  obtain⟨u,hu,_,hf⟩:=(hT t d hd).under
  have key:(∀ms,u ≠ .interface ms)→(Instr.makeInterface t (a.eval x)).run P w = .ok (.iface t (a.eval x)) w:=by
   intro di
   cases u<;>first|(exact absurd rfl (di _))|simp[Instr.makeInterface,run_underlying hu]
  split at aq
  ·cases aq
  ·cases aq
  ·rename_i h1 h2
   rw[cJ aq]
   refine dq.pure (e := .pv _) (cM rfl (key fun ms e => ?_)) (Rd.iface _ _ _ Km)
   subst e
   cases hk:d.kind<;>rw[hk] at hf<;>simp only[TK.fits] at hf
   ·cases hf
   ·cases hf
   ·cases hf
   ·exact h1 hk
   ·cases hf
   ·obtain⟨ff,K9,_⟩:=hf;cases K9
   ·obtain⟨K9,_⟩:=hf;cases K9
   ·exact h2 hk
 ·cases aq
theorem zH{t:TypeId}{x y:Operand}(hT:nM P T)(hp:zG a w β L I aG ρ)(aq:cf T aG dst (.makeSlice t x y) ρ h=some res)(cr:dP res.ob) :
  dq P ⟨dst,.makeSlice t x y,ty,pos,after,guard⟩ a β L I w res:=by
 simp only[cf] at aq
 split at aq
 ·rename_i d n n' r m out hd hx hy
  have Km:Rd I w (.int .i64 n) (a.eval x):=hp.ev x _ hx
  have X3:Rd I w (.int .i64 n') (a.eval y):=hp.ev y _ hy
  have Cv:a.eval x = .int .i64 n:=by generalize a.eval x=v at Km;cases Km;rfl
  have xD:a.eval y = .int .i64 n':=by generalize a.eval y=v at X3;cases X3;rfl
  split at aq
  ·rename_i e hk
   obtain⟨u,hu,_,hf⟩:=(hT t d hd).under
   rw[hk] at hf
   have hf:u = .slice e:=hf
   subst hf
   split at aq
   ·rename_i de oB
    obtain⟨i,hi,_,_,Vw⟩:=(hT e de oB).run_typeInfo w
    obtain⟨z,hz,_,Hy,hc⟩:=(hT e de oB).sW w
    have exec:n=(m:Int)→n'=(m:Int)→de.bytes*m≤140737488355328→m<9223372036854775808→1≤de.size →
      (Instr.makeSlice t (a.eval x) (a.eval y)).run P w = .ok (.slice (some ⟨w.heap.size,0,none⟩) m m) (w.alloc (.cells ((Array.range (m*de.size)).map (z.cells[·%z.cells.size]!)) e)):=by
     intro h1 h2 h3 h4 h5
     rw[Cv,xD,h1,h2]
     have hw:IntKind.i64.wrap (m:Int)=m:=by
      have:=IntKind.wrap_i64 (m:Int)
      omega
     have hb:¬((de.bytes:Int)*(m:Int)>2^48):=by
      have Lw:((de.bytes*m:Nat):Int)≤((140737488355328:Nat):Int):=Int.ofNat_le.2 h3
      rw[Int.natCast_mul] at Lw
      intro h6
      have h7:((140737488355328:Nat):Int)=140737488355328:=rfl
      omega
     have Tb:((((m:Int)<0||decide ((de.bytes:Int)*(m:Int)>2^48))||decide ((m:Int)<0))||decide ((m:Int)>(m:Int)))=false:=by
      simp only[Bool.or_eq_false_iff,decide_eq_false_iff_not]
      exact⟨⟨⟨by omega,hb⟩,by omega⟩,by omega⟩
     simp only[Instr.makeSlice,Sem.run_bind,run_underlying hu,Result.andThen_ok,asInt,asIntOf,Sem.run_pure,hi,Vw,hw,Tb,Bool.false_eq_true,if_false,run_askRoom,(hT e de oB).run_sizeOf w,Int.toNat_natCast]
     by_cases h0:m*de.size=0
     ·have hm:m=0:=by
       rcases Nat.mul_eq_zero.1 h0 with h|h
       ·exact h
       ·omega
      subst hm
      have C3:∀f:Nat→Value,(Array.range 0).map f = #[]:=fun f=>by simp
      simp only[Nat.zero_mul,if_true,Sem.run_bind,Sem.run_pure,Result.andThen_ok,C3]
      rfl
     ·simp only[h0,if_false,Sem.run_bind,hz,Result.andThen_ok,Sem.run_pure]
      rfl
    cases hs:Nat.ble 1 de.size with
    |false=>simp[hs] at aq
    |true =>
     simp only[hs,cond_true] at aq
     injection aq with aq;subst aq
     obtain⟨h1,cr⟩:=cr.cons
     obtain⟨h2,cr⟩:=cr.cons
     obtain⟨h3,cr⟩:=cr.cons
     obtain⟨h4,h5⟩:=cr.cons
     have h5:(List.replicate m (kf .none de)).flatten=out:=h5
     subst h5
     have Kk:1≤de.size:=Nat.le_of_ble_eq_true hs
     have uE:bV I w ((List.replicate m (kf .none de)).flatten) ((Array.range (m*de.size)).map (z.cells[·%z.cells.size]!)).toList:=AI ((hc I w).kf .none) m (m*de.size) (by rw[Hy]) (by omega)
     refine⟨_,_,cM rfl (exec h1 h2 h3 h4 Kk),vh.new hp.lb hp.ib (fun j c hj => ?_) (.inr ⟨m,de.size,rfl,rfl,by simp⟩)⟩
     obtain⟨u,g1,g2,g3⟩:=uE.sE (β:=β) (L:=L) j c hj
     exact⟨u,by rwa[Array.getElem?_toList] at g1,g2,g3⟩
   ·cases aq
  ·cases aq
 ·cases aq
end
end Go.Proofs.YtllmkadmohkbfaaGreatDoor.Sym
