/- Lemmas for the statements of this seat. -/
import Derived.Test.YtfjfekodeplcoaaGreatWSymF
namespace Go.Proofs.YtfjfekodeplcoaaGreat.Sym
open Go Go.RowKit
section
variable {P:Program} {T:ja} {a:Act} {w:World} {β:Nat→Option Nat} {L I:Nat→Prop} {sto:aG} {ρ:Operand→Option EV} {h:Hint} {res:mU}
variable {dst:Option Tmp} {ty:TypeId} {pos:String} {after:Array Edge} {guard:Option (Nat×Bool)}
theorem EA{t:TypeId}{x:Operand}(hT:lH P T)(hp:xu a w β L I sto ρ)(aw:cr T sto dst (.load t x) ρ h=some res)(bK:cW res.ob):cX P ⟨dst,.load t x,ty,pos,after,guard⟩ a β L I w res:=by
 simp only[cr] at aw
 split at aw
 ·rename_i d r off hd hx
  obtain⟨Ov,b,j5,hv⟩:=hp.ev x _ hx
  split at aw
  ·rename_i cells hc
   obtain⟨v,h1,h2,h3⟩:=so (hT t d hd) (hp.st r cells hc Ov) j5 aw bK
   obtain⟨e,new,ob⟩:=res
   subst h3
   refine cX.pure (cx rfl ?_) h2
   rw[hv]
   simp only[Instr.loadAt,Instr.sureAddr,Sem.run_bind,Sem.run_pure,Result.andThen_ok]
   exact h1
  ·cases aw
 ·rename_i d cells hd hx
  obtain⟨b,o,hv,hb,hc⟩:=hp.ev x _ hx
  cases ha:d.agg with
  |true =>
   simp only[ha,cond_true] at aw
   cases hs:Nat.ble d.size cells.length with
   |false=>simp[hs] at aw
   |true =>
    simp only[hs,cond_true] at aw
    rw[cz aw]
    have EB:d.size≤cells.length:=Nat.le_of_ble_eq_true hs
    obtain⟨v,h1,h2⟩:=qS (hT t d hd) ha (b:=b) (o:=o) (ps:=cells.take d.size) (by simp;omega) (fun j x hj=>by
     rw[List.getElem?_take] at hj
     split at hj
     ·exact hc j x hj
     ·cases hj)
    refine cX.pure (e := .pv _) (cx rfl ?_) h2
    rw[hv]
    simp only[Instr.loadAt,Instr.sureAddr,Sem.run_bind,Sem.run_pure,Result.andThen_ok]
    exact h1
  |false =>
   simp only[ha,cond_false] at aw
   split at aw
   ·rename_i p r
    rw[cz aw]
    obtain⟨_,u,h2,h3⟩:=hc 0 p rfl
    refine cX.pure (e := .pv p) (cx rfl ?_) h3
    rw[hv]
    simp only[Instr.loadAt,Instr.sureAddr,Sem.run_bind,Sem.run_pure,Result.andThen_ok]
    exact mN (hT t d hd) ha h2
   ·cases aw
 ·cases aw
theorem yz{x:Operand}(hp:xu a w β L I sto ρ)(aw:cr T sto dst (.nilCheck x) ρ h=some res):cX P ⟨dst,.nilCheck x,ty,pos,after,guard⟩ a β L I w res:=by
 simp only[cr] at aw
 split at aw
 ·rename_i r off hx
  rw[cz aw]
  have he:=hp.ev x _ hx
  obtain⟨_,b,_,hv⟩:=he
  refine cX.pure ?_ (hp.ev x _ hx)
  simp only[execOp,hv]
  rfl
 ·rename_i c hx
  rw[cz aw]
  have he:=hp.ev x _ hx
  obtain⟨b,o,hv,_⟩:=he
  refine cX.pure ?_ (hp.ev x _ hx)
  simp only[execOp,hv]
  rfl
 ·rename_i r off hx
  rw[cz aw]
  have he:=hp.ev x _ hx
  obtain⟨_,b,_,hv⟩:=he
  refine cX.pure ?_ (hp.ev x _ hx)
  simp only[execOp,hv]
  rfl
 ·cases aw
theorem GH{t:TypeId}{p:PV}(hT:lH P T)(ht:Kp T t p=true):Mp P t p:=by
 unfold Kp at ht
 unfold Mp
 split at ht
 ·split at ht
  ·rename_i d hd
   split at ht
   ·rename_i hk
    obtain⟨u,hu,_,hf⟩:=(hT t d hd).under
    rw[hk] at hf
    have hf:u = .bool:=hf
    subst hf;exact hu
   ·cases ht
  ·cases ht
 ·split at ht
  ·rename_i d hd
   split at ht
   ·rename_i hk
    obtain⟨u,hu,_,hf⟩:=(hT t d hd).under
    rw[hk] at hf
    obtain⟨ms,rfl⟩:∃ms,u = .interface ms:=hf
    exact⟨ms,hu⟩
   ·cases ht
  ·cases ht
 ·split at ht
  ·rename_i d hd
   split at ht
   ·rename_i hk
    obtain⟨u,hu,_,hf⟩:=(hT t d hd).under
    rw[hk] at hf
    obtain⟨ms,rfl⟩:∃ms,u = .interface ms:=hf
    exact⟨ms,hu⟩
   ·cases ht
  ·cases ht
 ·split at ht
  ·rename_i d hd
   rw[Bool.and_eq_true,Bool.not_eq_true'] at ht
   exact⟨d.J5,(hT t d hd).J5 (fun e=>by rw[e] at ht;simp at ht),ht.2⟩
  ·cases ht
 ·split<;>first|trivial|(exfalso;simp_all)
theorem CU{op:BinOp}{t yt:TypeId}{x y:Operand}(hT:lH P T)(hp:xu a w β L I sto ρ)(aw:cr T sto dst (.binOp op t x y yt) ρ h=some res)(bK:cW res.ob) :
  cX P ⟨dst,.binOp op t x y yt,ty,pos,after,guard⟩ a β L I w res:=by
 simp only[cr] at aw
 split at aw
 ·rename_i p q hx hy
  have GI:Rd I w p (a.eval x):=hp.ev x _ hx
  have Tv:Rd I w q (a.eval y):=hp.ev y _ hy
  cases ht:Kp T t p with
  |false=>simp[ht] at aw
  |true =>
   simp only[ht,cond_true] at aw
   have LA:=GH hT ht
   split at aw
   ·rename_i r
    injection aw with aw;subst aw
    obtain⟨v,h1,h2⟩:=AW w GI Tv bK LA
    exact cX.pure (e := .pv r) (cx rfl h1) h2
   ·split at aw
    ·rename_i r hs
     rw[cz aw]
     obtain⟨v,h1,h2⟩:=AW w GI Tv hs LA
     exact cX.pure (e := .pv r) (cx rfl h1) h2
    ·cases aw
 ·cases aw
theorem EC{op:UnOp}{t:TypeId}{x:Operand}(hp:xu a w β L I sto ρ)(aw:cr T sto dst (.unOp op t x) ρ h=some res)(bK:cW res.ob) :
  cX P ⟨dst,.unOp op t x,ty,pos,after,guard⟩ a β L I w res:=by
 simp only[cr] at aw
 split at aw
 ·rename_i p hx
  have GI:Rd I w p (a.eval x):=hp.ev x _ hx
  split at aw
  ·rename_i r
   injection aw with aw;subst aw
   obtain⟨v,h1,h2⟩:=CO (P:=P) w GI bK
   exact cX.pure (e := .pv r) (cx rfl h1) h2
  ·split at aw
   ·rename_i r hs
    rw[cz aw]
    obtain⟨v,h1,h2⟩:=CO (P:=P) w GI hs
    exact cX.pure (e := .pv r) (cx rfl h1) h2
   ·cases aw
 ·cases aw
theorem Ax{s t:TypeId}{x:Operand}(hT:lH P T)(hp:xu a w β L I sto ρ)(aw:cr T sto dst (.convert s t x) ρ h=some res)(bK:cW res.ob) :
  cX P ⟨dst,.convert s t x,ty,pos,after,guard⟩ a β L I w res:=by
 simp only[cr] at aw
 split at aw
 ·rename_i ds d j n Ks hd hx
  have GI:Rd I w (.int j n) (a.eval x):=hp.ev x _ hx
  have hv:a.eval x = .int j n:=by generalize a.eval x=v at GI;cases GI;rfl
  split at aw
  ·rename_i k hk
   obtain⟨u,hu,_,hf⟩:=(hT t d hd).under
   rw[hk] at hf
   have hf:u = .int k:=hf
   subst hf
   obtain⟨us,xW,_⟩:=(hT s ds Ks).under
   have hr:(convert s t (a.eval x)).run P w = .ok (.int k (k.wrap n)) w:=by
    rw[hv]
    simp[convert,run_underlying hu,run_underlying xW,Conv.intToInt]
   split at aw
   ·rename_i k' m
    cases Av:decide (k=k') with
    |false=>simp[Av] at aw
    |true =>
     simp only[Av,cond_true] at aw
     injection aw with aw;subst aw
     have hw:k.wrap n=m:=bK
     rw[hw] at hr
     exact cX.pure (e := .pv _) (cx rfl hr) (Rd.int _ _)
   ·rw[cz aw]
    exact cX.pure (e := .pv _) (cx rfl hr) (Rd.int _ _)
  ·cases aw
 ·cases aw
theorem sR{t:TypeId}{x:Operand}(hT:lH P T)(hp:xu a w β L I sto ρ)(aw:cr T sto dst (.makeInterface t x) ρ h=some res) :
  cX P ⟨dst,.makeInterface t x,ty,pos,after,guard⟩ a β L I w res:=by
 simp only[cr] at aw
 split at aw
 ·rename_i d p hd hx
  have GI:Rd I w p (a.eval x):=hp.ev x _ hx
  obtain⟨u,hu,_,hf⟩:=(hT t d hd).under
  have key:(∀ms,u ≠ .interface ms)→(Instr.makeInterface t (a.eval x)).run P w = .ok (.iface t (a.eval x)) w:=by
   intro iO
   cases u<;>first|(exact absurd rfl (iO _))|simp[Instr.makeInterface,run_underlying hu]
  split at aw
  ·cases aw
  ·cases aw
  ·rename_i h1 h2
   rw[cz aw]
   refine cX.pure (e := .pv _) (cx rfl (key fun ms e => ?_)) (Rd.iface _ _ _ GI)
   subst e
   cases hk:d.kind<;>rw[hk] at hf<;>simp only[TK.fits] at hf
   ·cases hf
   ·cases hf
   ·cases hf
   ·exact h1 hk
   ·cases hf
   ·obtain⟨ff,J7,_⟩:=hf;cases J7
   ·obtain⟨J7,_⟩:=hf;cases J7
   ·exact h2 hk
 ·cases aw
theorem xv{t:TypeId}{x y:Operand}(hT:lH P T)(hp:xu a w β L I sto ρ)(aw:cr T sto dst (.makeSlice t x y) ρ h=some res)(bK:cW res.ob) :
  cX P ⟨dst,.makeSlice t x y,ty,pos,after,guard⟩ a β L I w res:=by
 simp only[cr] at aw
 split at aw
 ·rename_i d n n' r m out hd hx hy
  have GI:Rd I w (.int .i64 n) (a.eval x):=hp.ev x _ hx
  have Tw:Rd I w (.int .i64 n') (a.eval y):=hp.ev y _ hy
  have td:a.eval x = .int .i64 n:=by generalize a.eval x=v at GI;cases GI;rfl
  have rE:a.eval y = .int .i64 n':=by generalize a.eval y=v at Tw;cases Tw;rfl
  split at aw
  ·rename_i e hk
   obtain⟨u,hu,_,hf⟩:=(hT t d hd).under
   rw[hk] at hf
   have hf:u = .slice e:=hf
   subst hf
   split at aw
   ·rename_i de lI
    obtain⟨i,hi,_,_,OT⟩:=(hT e de lI).run_typeInfo w
    obtain⟨z,hz,_,ta,hc⟩:=(hT e de lI).mg w
    have exec:n=(m:Int)→n'=(m:Int)→de.bytes*m≤140737488355328→m<9223372036854775808→1≤de.size →
      (Instr.makeSlice t (a.eval x) (a.eval y)).run P w = .ok (.slice (some ⟨w.heap.size,0,none⟩) m m) (w.alloc (.cells ((Array.range (m*de.size)).map (z.cells[·%z.cells.size]!)) e)):=by
     intro h1 h2 h3 h4 h5
     rw[td,rE,h1,h2]
     have hw:IntKind.i64.wrap (m:Int)=m:=by
      have:=IntKind.wrap_i64 (m:Int)
      omega
     have hb:¬((de.bytes:Int)*(m:Int)>2^48):=by
      have GJ:((de.bytes*m:Nat):Int)≤((140737488355328:Nat):Int):=Int.ofNat_le.2 h3
      rw[Int.natCast_mul] at GJ
      intro h6
      have h7:((140737488355328:Nat):Int)=140737488355328:=rfl
      omega
     have OU:((((m:Int)<0||decide ((de.bytes:Int)*(m:Int)>2^48))||decide ((m:Int)<0))||decide ((m:Int)>(m:Int)))=false:=by
      simp only[Bool.or_eq_false_iff,decide_eq_false_iff_not]
      exact⟨⟨⟨by omega,hb⟩,by omega⟩,by omega⟩
     simp only[Instr.makeSlice,Sem.run_bind,run_underlying hu,Result.andThen_ok,asInt,asIntOf,Sem.run_pure,hi,OT,hw,OU,Bool.false_eq_true,if_false,run_askRoom,(hT e de lI).run_sizeOf w,Int.toNat_natCast]
     by_cases h0:m*de.size=0
     ·have hm:m=0:=by
       rcases Nat.mul_eq_zero.1 h0 with h|h
       ·exact h
       ·omega
      subst hm
      have J9:∀f:Nat→Value,(Array.range 0).map f = #[]:=fun f=>by simp
      simp only[Nat.zero_mul,if_true,Sem.run_bind,Sem.run_pure,Result.andThen_ok,J9]
      rfl
     ·simp only[h0,if_false,Sem.run_bind,hz,Result.andThen_ok,Sem.run_pure]
      rfl
    cases hs:Nat.ble 1 de.size with
    |false=>simp[hs] at aw
    |true =>
     simp only[hs,cond_true] at aw
     injection aw with aw;subst aw
     obtain⟨h1,bK⟩:=bK.cons
     obtain⟨h2,bK⟩:=bK.cons
     obtain⟨h3,bK⟩:=bK.cons
     obtain⟨h4,h5⟩:=bK.cons
     have h5:(List.replicate m (iu .none de)).flatten=out:=h5
     subst h5
     have EB:1≤de.size:=Nat.le_of_ble_eq_true hs
     have q8:bT I w ((List.replicate m (iu .none de)).flatten) ((Array.range (m*de.size)).map (z.cells[·%z.cells.size]!)).toList:=yy ((hc I w).iu .none) m (m*de.size) (by rw[ta]) (by omega)
     refine⟨_,_,cx rfl (exec h1 h2 h3 h4 EB),qi.new hp.lb hp.ib (fun j c hj => ?_) (.inr ⟨m,de.size,rfl,rfl,by simp⟩)⟩
     obtain⟨u,g1,g2,g3⟩:=q8.jc (β:=β) (L:=L) j c hj
     exact⟨u,by rwa[Array.getElem?_toList] at g1,g2,g3⟩
   ·cases aw
  ·cases aw
 ·cases aw
end
end Go.Proofs.YtfjfekodeplcoaaGreat.Sym
