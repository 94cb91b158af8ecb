/- The comparison of algebraic numbers is a total order that agrees with the comparison with fractions. The law AlgebraicOrder returns true for every input, with the tables of numerals of the Go library that the row lists as they are laid. -/
import Derived.Test.YtllmkadmohkbfaaGreatDoorYSymF
namespace Go.Proofs.YtllmkadmohkbfaaGreatDoor.Sym
open Go Go.RowKit
section
variable {P:Program} {T:j0} {a:Act} {w:World} {β:Nat→Option Nat} {L I:Nat→Prop} {aG:aS} {ρ:Operand→Option EV} {h:Hint} {res:mN}
variable {dst:Option Tmp} {ty:TypeId} {pos:String} {after:Array Edge} {guard:Option (Nat×Bool)}
theorem FQ{t:TypeId}{x:Operand}(hT:mC P T)(hp:xR a w β L I aG ρ)(aq:b8 T aG dst (.load t x) ρ h=some res)(cb:dA res.ob):cY P ⟨dst,.load t x,ty,pos,after,guard⟩ a β L I w res:=by
 simp only[b8] at aq
 split at aq
 ·rename_i d r off hd hx
  obtain⟨Q3,b,mS,hv⟩:=hp.ev x _ hx
  split at aq
  ·rename_i cells hc
   obtain⟨v,h1,h2,h3⟩:=Bu (hT t d hd) (hp.st r cells hc Q3) mS aq cb
   obtain⟨e,new,ob⟩:=res
   subst h3
   refine cY.pure (cD rfl ?_) h2
   rw[hv]
   simp only[Instr.loadAt,Instr.sureAddr,Sem.run_bind,Sem.run_pure,Result.andThen_ok]
   exact h1
  ·cases aq
 ·rename_i d cells hd hx
  obtain⟨b,o,hv,hb,hc⟩:=hp.ev x _ hx
  cases ha:d.agg with
  |true =>
   simp only[ha,cond_true] at aq
   cases hs:Nat.ble d.size cells.length with
   |false=>simp[hs] at aq
   |true =>
    simp only[hs,cond_true] at aq
    rw[cx aq]
    have Io:d.size≤cells.length:=Nat.le_of_ble_eq_true hs
    obtain⟨v,h1,h2⟩:=qS (hT t d hd) ha (b:=b) (o:=o) (ps:=cells.take d.size) (by simp;omega) (fun j x hj=>by
     rw[List.getElem?_take] at hj
     split at hj
     ·exact hc j x hj
     ·cases hj)
    refine cY.pure (e := .pv _) (cD rfl ?_) h2
    rw[hv]
    simp only[Instr.loadAt,Instr.sureAddr,Sem.run_bind,Sem.run_pure,Result.andThen_ok]
    exact h1
  |false =>
   simp only[ha,cond_false] at aq
   split at aq
   ·rename_i p r
    rw[cx aq]
    obtain⟨_,u,h2,h3⟩:=hc 0 p rfl
    refine cY.pure (e := .pv p) (cD rfl ?_) h3
    rw[hv]
    simp only[Instr.loadAt,Instr.sureAddr,Sem.run_bind,Sem.run_pure,Result.andThen_ok]
    exact mD (hT t d hd) ha h2
   ·cases aq
 ·cases aq
theorem yN{x:Operand}(hp:xR a w β L I aG ρ)(aq:b8 T aG dst (.nilCheck x) ρ h=some res):cY P ⟨dst,.nilCheck x,ty,pos,after,guard⟩ a β L I w res:=by
 simp only[b8] at aq
 split at aq
 ·rename_i r off hx
  rw[cx aq]
  have he:=hp.ev x _ hx
  obtain⟨_,b,_,hv⟩:=he
  refine cY.pure ?_ (hp.ev x _ hx)
  simp only[execOp,hv]
  rfl
 ·rename_i c hx
  rw[cx aq]
  have he:=hp.ev x _ hx
  obtain⟨b,o,hv,_⟩:=he
  refine cY.pure ?_ (hp.ev x _ hx)
  simp only[execOp,hv]
  rfl
 ·rename_i r off hx
  rw[cx aq]
  have he:=hp.ev x _ hx
  obtain⟨_,b,_,hv⟩:=he
  refine cY.pure ?_ (hp.ev x _ hx)
  simp only[execOp,hv]
  rfl
 ·cases aq
theorem Ip{t:TypeId}{p:PV}(hT:mC P T)(ht:Mh T t p=true):Oz P t p:=by
 unfold Mh at ht
 unfold Oz
 split at ht
 ·split at ht
  ·rename_i d hd
   split at ht
   ·rename_i hk
    obtain⟨u,hu,_,hf⟩:=(hT t d hd).under
    rw[hk] at hf
    have hf:u = .bool:=hf
    subst hf;exact hu
   ·cases ht
  ·cases ht
 ·split at ht
  ·rename_i d hd
   split at ht
   ·rename_i hk
    obtain⟨u,hu,_,hf⟩:=(hT t d hd).under
    rw[hk] at hf
    obtain⟨ms,rfl⟩:∃ms,u = .interface ms:=hf
    exact⟨ms,hu⟩
   ·cases ht
  ·cases ht
 ·split at ht
  ·rename_i d hd
   split at ht
   ·rename_i hk
    obtain⟨u,hu,_,hf⟩:=(hT t d hd).under
    rw[hk] at hf
    obtain⟨ms,rfl⟩:∃ms,u = .interface ms:=hf
    exact⟨ms,hu⟩
   ·cases ht
  ·cases ht
 ·split<;>first|trivial|(exfalso;simp_all)
theorem DY{op:BinOp}{t yt:TypeId}{x y:Operand}(hT:mC P T)(hp:xR a w β L I aG ρ)(aq:b8 T aG dst (.binOp op t x y yt) ρ h=some res)(cb:dA res.ob) :
  cY P ⟨dst,.binOp op t x y yt,ty,pos,after,guard⟩ a β L I w res:=by
 simp only[b8] at aq
 split at aq
 ·rename_i p q hx hy
  have Iq:Rd I w p (a.eval x):=hp.ev x _ hx
  have VO:Rd I w q (a.eval y):=hp.ev y _ hy
  cases ht:Mh T t p with
  |false=>simp[ht] at aq
  |true =>
   simp only[ht,cond_true] at aq
   have VP:=Ip hT ht
   split at aq
   ·rename_i r
    injection aq with aq;subst aq
    obtain⟨v,h1,h2⟩:=Br w Iq VO cb VP
    exact cY.pure (e := .pv r) (cD rfl h1) h2
   ·split at aq
    ·rename_i r hs
     rw[cx aq]
     obtain⟨v,h1,h2⟩:=Br w Iq VO hs VP
     exact cY.pure (e := .pv r) (cD rfl h1) h2
    ·cases aq
 ·cases aq
theorem FR{op:UnOp}{t:TypeId}{x:Operand}(hp:xR a w β L I aG ρ)(aq:b8 T aG dst (.unOp op t x) ρ h=some res)(cb:dA res.ob) :
  cY P ⟨dst,.unOp op t x,ty,pos,after,guard⟩ a β L I w res:=by
 simp only[b8] at aq
 split at aq
 ·rename_i p hx
  have Iq:Rd I w p (a.eval x):=hp.ev x _ hx
  split at aq
  ·rename_i r
   injection aq with aq;subst aq
   obtain⟨v,h1,h2⟩:=DS (P:=P) w Iq cb
   exact cY.pure (e := .pv r) (cD rfl h1) h2
  ·split at aq
   ·rename_i r hs
    rw[cx aq]
    obtain⟨v,h1,h2⟩:=DS (P:=P) w Iq hs
    exact cY.pure (e := .pv r) (cD rfl h1) h2
   ·cases aq
 ·cases aq
theorem AZ{s t:TypeId}{x:Operand}(hT:mC P T)(hp:xR a w β L I aG ρ)(aq:b8 T aG dst (.convert s t x) ρ h=some res)(cb:dA res.ob) :
  cY P ⟨dst,.convert s t x,ty,pos,after,guard⟩ a β L I w res:=by
 simp only[b8] at aq
 split at aq
 ·rename_i ds d j n Ml hd hx
  have Iq:Rd I w (.int j n) (a.eval x):=hp.ev x _ hx
  have hv:a.eval x = .int j n:=by generalize a.eval x=v at Iq;cases Iq;rfl
  split at aq
  ·rename_i k hk
   obtain⟨u,hu,_,hf⟩:=(hT t d hd).under
   rw[hk] at hf
   have hf:u = .int k:=hf
   subst hf
   obtain⟨us,Cv,_⟩:=(hT s ds Ml).under
   have hr:(convert s t (a.eval x)).run P w = .ok (.int k (k.wrap n)) w:=by
    rw[hv]
    simp[convert,run_underlying hu,run_underlying Cv,Conv.intToInt]
   split at aq
   ·rename_i k' m
    cases hkk:decide (k=k') with
    |false=>simp[hkk] at aq
    |true =>
     simp only[hkk,cond_true] at aq
     injection aq with aq;subst aq
     have hw:k.wrap n=m:=cb
     rw[hw] at hr
     exact cY.pure (e := .pv _) (cD rfl hr) (Rd.int _ _)
   ·rw[cx aq]
    exact cY.pure (e := .pv _) (cD rfl hr) (Rd.int _ _)
  ·cases aq
 ·cases aq
theorem s4{t:TypeId}{x:Operand}(hT:mC P T)(hp:xR a w β L I aG ρ)(aq:b8 T aG dst (.makeInterface t x) ρ h=some res) :
  cY P ⟨dst,.makeInterface t x,ty,pos,after,guard⟩ a β L I w res:=by
 simp only[b8] at aq
 split at aq
 ·rename_i d p hd hx
  have Iq:Rd I w p (a.eval x):=hp.ev x _ hx
  obtain⟨u,hu,_,hf⟩:=(hT t d hd).under
  have key:(∀ms,u ≠ .interface ms)→(Instr.makeInterface t (a.eval x)).run P w = .ok (.iface t (a.eval x)) w:=by
   intro df
   cases u<;>first|(exact absurd rfl (df _))|simp[Instr.makeInterface,run_underlying hu]
  split at aq
  ·cases aq
  ·cases aq
  ·rename_i h1 h2
   rw[cx aq]
   refine cY.pure (e := .pv _) (cD rfl (key fun ms e => ?_)) (Rd.iface _ _ _ Iq)
   subst e
   cases hk:d.kind<;>rw[hk] at hf<;>simp only[TK.fits] at hf
   ·cases hf
   ·cases hf
   ·cases hf
   ·exact h1 hk
   ·cases hf
   ·obtain⟨ff,I7,_⟩:=hf;cases I7
   ·obtain⟨I7,_⟩:=hf;cases I7
   ·exact h2 hk
 ·cases aq
theorem xS{t:TypeId}{x y:Operand}(hT:mC P T)(hp:xR a w β L I aG ρ)(aq:b8 T aG dst (.makeSlice t x y) ρ h=some res)(cb:dA res.ob) :
  cY P ⟨dst,.makeSlice t x y,ty,pos,after,guard⟩ a β L I w res:=by
 simp only[b8] at aq
 split at aq
 ·rename_i d n n' r m out hd hx hy
  have Iq:Rd I w (.int .i64 n) (a.eval x):=hp.ev x _ hx
  have VQ:Rd I w (.int .i64 n') (a.eval y):=hp.ev y _ hy
  have AU:a.eval x = .int .i64 n:=by generalize a.eval x=v at Iq;cases Iq;rfl
  have vT:a.eval y = .int .i64 n':=by generalize a.eval y=v at VQ;cases VQ;rfl
  split at aq
  ·rename_i e hk
   obtain⟨u,hu,_,hf⟩:=(hT t d hd).under
   rw[hk] at hf
   have hf:u = .slice e:=hf
   subst hf
   split at aq
   ·rename_i de nk
    obtain⟨i,hi,_,_,Tl⟩:=(hT e de nk).run_typeInfo w
    obtain⟨z,hz,_,FK,hc⟩:=(hT e de nk).re w
    have exec:n=(m:Int)→n'=(m:Int)→de.bytes*m≤140737488355328→m<9223372036854775808→1≤de.size →
      (Instr.makeSlice t (a.eval x) (a.eval y)).run P w = .ok (.slice (some ⟨w.heap.size,0,none⟩) m m) (w.alloc (.cells ((Array.range (m*de.size)).map (z.cells[·%z.cells.size]!)) e)):=by
     intro h1 h2 h3 h4 h5
     rw[AU,vT,h1,h2]
     have hw:IntKind.i64.wrap (m:Int)=m:=by
      have:=IntKind.wrap_i64 (m:Int)
      omega
     have hb:¬((de.bytes:Int)*(m:Int)>2^48):=by
      have Jw:((de.bytes*m:Nat):Int)≤((140737488355328:Nat):Int):=Int.ofNat_le.2 h3
      rw[Int.natCast_mul] at Jw
      intro h6
      have h7:((140737488355328:Nat):Int)=140737488355328:=rfl
      omega
     have Q4:((((m:Int)<0||decide ((de.bytes:Int)*(m:Int)>2^48))||decide ((m:Int)<0))||decide ((m:Int)>(m:Int)))=false:=by
      simp only[Bool.or_eq_false_iff,decide_eq_false_iff_not]
      exact⟨⟨⟨by omega,hb⟩,by omega⟩,by omega⟩
     simp only[Instr.makeSlice,Sem.run_bind,run_underlying hu,Result.andThen_ok,asInt,asIntOf,Sem.run_pure,hi,Tl,hw,Q4,Bool.false_eq_true,if_false,run_askRoom,(hT e de nk).run_sizeOf w,Int.toNat_natCast]
     by_cases h0:m*de.size=0
     ·have hm:m=0:=by
       rcases Nat.mul_eq_zero.1 h0 with h|h
       ·exact h
       ·omega
      subst hm
      have Bv:∀f:Nat→Value,(Array.range 0).map f = #[]:=fun f=>by simp
      simp only[Nat.zero_mul,if_true,Sem.run_bind,Sem.run_pure,Result.andThen_ok,Bv]
      rfl
     ·simp only[h0,if_false,Sem.run_bind,hz,Result.andThen_ok,Sem.run_pure]
      rfl
    cases hs:Nat.ble 1 de.size with
    |false=>simp[hs] at aq
    |true =>
     simp only[hs,cond_true] at aq
     injection aq with aq;subst aq
     obtain⟨h1,cb⟩:=cb.cons
     obtain⟨h2,cb⟩:=cb.cons
     obtain⟨h3,cb⟩:=cb.cons
     obtain⟨h4,h5⟩:=cb.cons
     have h5:(List.replicate m (jy .none de)).flatten=out:=h5
     subst h5
     have Io:1≤de.size:=Nat.le_of_ble_eq_true hs
     have sZ:bQ I w ((List.replicate m (jy .none de)).flatten) ((Array.range (m*de.size)).map (z.cells[·%z.cells.size]!)).toList:=yL ((hc I w).jy .none) m (m*de.size) (by rw[FK]) (by omega)
     refine⟨_,_,cD rfl (exec h1 h2 h3 h4 Io),tJ.new hp.lb hp.ib (fun j c hj => ?_) (.inr ⟨m,de.size,rfl,rfl,by simp⟩)⟩
     obtain⟨u,g1,g2,g3⟩:=sZ.qR (β:=β) (L:=L) j c hj
     exact⟨u,by rwa[Array.getElem?_toList] at g1,g2,g3⟩
   ·cases aq
  ·cases aq
 ·cases aq
end
end Go.Proofs.YtllmkadmohkbfaaGreatDoor.Sym
