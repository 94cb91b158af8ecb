/- Lemmas for the statements of this seat. -/
import Derived.Test.YtcpnocgollpbhaaGreatDoorW5
namespace Go.Proofs.YtcpnocgollpbhaaGreatDoor.Sym
open Go Go.RowKit
section
variable {P:Program} {T:kL} {a:Act} {w:World} {β:Nat→Option Nat} {L I:Nat→Prop} {aG:aS} {ρ:Operand→Option EV} {h:Hint} {res:oq}
variable {dst:Option Tmp} {ty:TypeId} {pos:String} {after:Array Edge} {guard:Option (Nat×Bool)}
theorem Jq{t:TypeId}{x:Operand}(hT:n8 P T)(hp:Af a w β L I aG ρ)(ar:bW T aG dst (.load t x) ρ h=some res)(bT:dK res.ob):dc P ⟨dst,.load t x,ty,pos,after,guard⟩ a β L I w res:=by
 simp only[bW] at ar;split at ar
 ·rename_i d r off hd hx;obtain⟨Wt,b,ot,hv⟩:=hp.ev x _ hx;split at ar
  ·rename_i cells hc;obtain⟨v,h1,h2,h3⟩:=D6 (hT t d hd) (hp.st r cells hc Wt) ot ar bT;obtain⟨e,new,ob⟩:=res;subst h3;refine dc.pure (cv rfl ?_) h2;rw[hv];simp only[Instr.loadAt,Instr.sureAddr,Sem.run_bind,Sem.run_pure,Result.andThen_ok];exact h1
  ·cases ar
 ·rename_i d cells hd hx;obtain⟨b,o,hv,hb,hc⟩:=hp.ev x _ hx;cases ha:d.agg with
  |true =>
   simp only[ha,cond_true] at ar;cases hs:Nat.ble d.size cells.length with
   |false=>simp[hs] at ar
   |true =>
    simp only[hs,cond_true] at ar;rw[cz ar];have NY:d.size≤cells.length:=afS hs;obtain⟨v,h1,h2⟩:=sP (hT t d hd) ha (b:=b) (o:=o) (ps:=cells.take d.size) (by simp;omega) (fun j x hj=>by
     rw[agG] at hj;split at hj
     ·exact hc j x hj
     ·cases hj)
    refine dc.pure (e := .pv _) (cv rfl ?_) h2;rw[hv];simp only[Instr.loadAt,Instr.sureAddr,Sem.run_bind,Sem.run_pure,Result.andThen_ok];exact h1
  |false =>
   simp only[ha,cond_false] at ar;split at ar
   ·rename_i p r;rw[cz ar];obtain⟨_,u,h2,h3⟩:=hc 0 p rfl;refine dc.pure (e := .pv p) (cv rfl ?_) h3;rw[hv];simp only[Instr.loadAt,Instr.sureAddr,Sem.run_bind,Sem.run_pure,Result.andThen_ok];exact n9 (hT t d hd) ha h2
   ·cases ar
 ·cases ar
theorem Bh{x:Operand}(hp:Af a w β L I aG ρ)(ar:bW T aG dst (.nilCheck x) ρ h=some res):dc P ⟨dst,.nilCheck x,ty,pos,after,guard⟩ a β L I w res:=by
 simp only[bW] at ar;split at ar
 ·rename_i r off hx;rw[cz ar];have he:=hp.ev x _ hx;obtain⟨_,b,_,hv⟩:=he;refine dc.pure ?_ (hp.ev x _ hx);simp only[execOp,hv];rfl
 ·rename_i c hx;rw[cz ar];have he:=hp.ev x _ hx;obtain⟨b,o,hv,_⟩:=he;refine dc.pure ?_ (hp.ev x _ hx);simp only[execOp,hv];rfl
 ·rename_i r off hx;rw[cz ar];have he:=hp.ev x _ hx;obtain⟨_,b,_,hv⟩:=he;refine dc.pure ?_ (hp.ev x _ hx);simp only[execOp,hv];rfl
 ·cases ar
theorem Mt{t:TypeId}{p:PV}(hT:n8 P T)(ht:QX T t p=true):TL P t p:=by
 unfold QX at ht;unfold TL;split at ht
 ·split at ht
  ·rename_i d hd;split at ht
   ·rename_i hk;obtain⟨u,hu,_,hf⟩:=(hT t d hd).under;rw[hk] at hf;have hf:u = .bool:=hf;subst hf;exact hu
   ·cases ht
  ·cases ht
 ·split at ht
  ·rename_i d hd;split at ht
   ·rename_i hk;obtain⟨u,hu,_,hf⟩:=(hT t d hd).under;rw[hk] at hf;obtain⟨ms,rfl⟩:∃ms,u = .interface ms:=hf;exact⟨ms,hu⟩
   ·cases ht
  ·cases ht
 ·split at ht
  ·rename_i d hd;split at ht
   ·rename_i hk;obtain⟨u,hu,_,hf⟩:=(hT t d hd).under;rw[hk] at hf;obtain⟨ms,rfl⟩:∃ms,u = .interface ms:=hf;exact⟨ms,hu⟩
   ·cases ht
  ·cases ht
 ·split at ht
  ·rename_i d hd;rw[afX,ahd] at ht;exact⟨d.QG,(hT t d hd).QG (fun e=>by rw[e] at ht;simp at ht),ht.2⟩
  ·cases ht
 ·split<;>first|trivial|(exfalso;simp_all)
theorem Hm{op:BinOp}{t yt:TypeId}{x y:Operand}(hT:n8 P T)(hp:Af a w β L I aG ρ)(ar:bW T aG dst (.binOp op t x y yt) ρ h=some res)(bT:dK res.ob) :
  dc P ⟨dst,.binOp op t x y yt,ty,pos,after,guard⟩ a β L I w res:=by
 simp only[bW] at ar;split at ar
 ·rename_i p q hx hy;have Mu:Rd I w p (a.eval x):=hp.ev x _ hx;have hqy:Rd I w q (a.eval y):=hp.ev y _ hy;cases ht:QX T t p with
  |false=>simp[ht] at ar
  |true =>
   simp only[ht,cond_true] at ar;have SK:=Mt hT ht;split at ar
   ·rename_i r;injection ar with ar;subst ar
    obtain⟨v,h1,h2⟩:=DZ w Mu hqy bT SK;exact dc.pure (e := .pv r) (cv rfl h1) h2
   ·split at ar
    ·rename_i r hs;rw[cz ar];obtain⟨v,h1,h2⟩:=DZ w Mu hqy hs SK;exact dc.pure (e := .pv r) (cv rfl h1) h2
    ·cases ar
 ·cases ar
theorem Jr{op:UnOp}{t:TypeId}{x:Operand}(hp:Af a w β L I aG ρ)(ar:bW T aG dst (.unOp op t x) ρ h=some res)(bT:dK res.ob) :
  dc P ⟨dst,.unOp op t x,ty,pos,after,guard⟩ a β L I w res:=by
 simp only[bW] at ar;split at ar
 ·rename_i p hx;have Mu:Rd I w p (a.eval x):=hp.ev x _ hx;split at ar
  ·rename_i r;injection ar with ar;subst ar
   obtain⟨v,h1,h2⟩:=Hd (P:=P) w Mu bT;exact dc.pure (e := .pv r) (cv rfl h1) h2
  ·split at ar
   ·rename_i r hs;rw[cz ar];obtain⟨v,h1,h2⟩:=Hd (P:=P) w Mu hs;exact dc.pure (e := .pv r) (cv rfl h1) h2
   ·cases ar
 ·cases ar
theorem Dz{s t:TypeId}{x:Operand}(hT:n8 P T)(hp:Af a w β L I aG ρ)(ar:bW T aG dst (.convert s t x) ρ h=some res)(bT:dK res.ob) :
  dc P ⟨dst,.convert s t x,ty,pos,after,guard⟩ a β L I w res:=by
 simp only[bW] at ar;split at ar
 ·rename_i ds d j n Q0 hd hx;have Mu:Rd I w (.int j n) (a.eval x):=hp.ev x _ hx;have hv:a.eval x = .int j n:=by generalize a.eval x=v at Mu;cases Mu;rfl
  split at ar
  ·rename_i k hk;obtain⟨u,hu,_,hf⟩:=(hT t d hd).under;rw[hk] at hf;have hf:u = .int k:=hf;subst hf;obtain⟨us,Dx,_⟩:=(hT s ds Q0).under;have hr:(convert s t (a.eval x)).run P w = .ok (.int k (k.wrap n)) w:=by
    rw[hv];simp[convert,run_underlying hu,run_underlying Dx,Conv.intToInt]
   split at ar
   ·rename_i k' m;cases Dt:decide (k=k') with
    |false=>simp[Dt] at ar
    |true =>
     simp only[Dt,cond_true] at ar;injection ar with ar;subst ar
     have hw:k.wrap n=m:=bT;rw[hw] at hr;exact dc.pure (e := .pv _) (cv rfl hr) (Rd.int _ _)
   ·rw[cz ar];exact dc.pure (e := .pv _) (cv rfl hr) (Rd.int _ _)
  ·cases ar
 ·cases ar
theorem uU{t:TypeId}{x:Operand}(hT:n8 P T)(hp:Af a w β L I aG ρ)(ar:bW T aG dst (.makeInterface t x) ρ h=some res) :
  dc P ⟨dst,.makeInterface t x,ty,pos,after,guard⟩ a β L I w res:=by
 simp only[bW] at ar;split at ar
 ·rename_i d p hd hx;have Mu:Rd I w p (a.eval x):=hp.ev x _ hx;obtain⟨u,hu,_,hf⟩:=(hT t d hd).under;have key:(∀ms,u ≠ .interface ms)→(Instr.makeInterface t (a.eval x)).run P w = .ok (.iface t (a.eval x)) w:=by
   intro et;cases u<;>first|(exact absurd rfl (et _))|simp[Instr.makeInterface,run_underlying hu]
  split at ar
  ·cases ar
  ·cases ar
  ·rename_i h1 h2;rw[cz ar];refine dc.pure (e := .pv _) (cv rfl (key fun ms e => ?_)) (Rd.iface _ _ _ Mu);subst e;cases hk:d.kind<;>rw[hk] at hf<;>simp only[TK.fits] at hf
   ·cases hf
   ·cases hf
   ·cases hf
   ·exact h1 hk
   ·cases hf
   ·obtain⟨ff,Nt,_⟩:=hf;cases Nt
   ·obtain⟨Nt,_⟩:=hf;cases Nt
   ·exact h2 hk
 ·cases ar
theorem Ah{t:TypeId}{x y:Operand}(hT:n8 P T)(hp:Af a w β L I aG ρ)(ar:bW T aG dst (.makeSlice t x y) ρ h=some res)(bT:dK res.ob) :
  dc P ⟨dst,.makeSlice t x y,ty,pos,after,guard⟩ a β L I w res:=by
 simp only[bW] at ar;split at ar
 ·rename_i d n n' r m out hd hx hy;have Mu:Rd I w (.int .i64 n) (a.eval x):=hp.ev x _ hx;have hpy:Rd I w (.int .i64 n') (a.eval y):=hp.ev y _ hy;have Dm:a.eval x = .int .i64 n:=by generalize a.eval x=v at Mu;cases Mu;rfl
  have yf:a.eval y = .int .i64 n':=by generalize a.eval y=v at hpy;cases hpy;rfl
  split at ar
  ·rename_i e hk;obtain⟨u,hu,_,hf⟩:=(hT t d hd).under;rw[hk] at hf;have hf:u = .slice e:=hf;subst hf;split at ar
   ·rename_i de oW;obtain⟨i,hi,_,_,Zd⟩:=(hT e de oW).run_typeInfo w;obtain⟨z,hz,_,Hf,hc⟩:=(hT e de oW).qY w;have exec:n=(m:Int)→n'=(m:Int)→de.bytes*m≤140737488355328→m<9223372036854775808→1≤de.size →
      (Instr.makeSlice t (a.eval x) (a.eval y)).run P w = .ok (.slice (some ⟨w.heap.size,0,none⟩) m m) (w.alloc (.cells ((Array.range (m*de.size)).map (z.cells[·%z.cells.size]!)) e)):=by
     intro h1 h2 h3 h4 h5;rw[Dm,yf,h1,h2];have hw:IntKind.i64.wrap (m:Int)=m:=by have:=IntKind.wrap_i64 (m:Int);omega
     have hb:¬((de.bytes:Int)*(m:Int)>2^48):=by have NZ:((de.bytes*m:Nat):Int)≤((140737488355328:Nat):Int):=aj8.2 h3;rw[agz] at NZ;intro h6;have h7:((140737488355328:Nat):Int)=140737488355328:=rfl;omega
     have Wu:((((m:Int)<0||decide ((de.bytes:Int)*(m:Int)>2^48))||decide ((m:Int)<0))||decide ((m:Int)>(m:Int)))=false:=by simp only[Bool.or_eq_false_iff,decide_eq_false_iff_not];exact⟨⟨⟨by omega,hb⟩,by omega⟩,by omega⟩
     simp only[Instr.makeSlice,Sem.run_bind,run_underlying hu,Result.andThen_ok,asInt,asIntOf,Sem.run_pure,hi,Zd,hw,Wu,Bool.false_eq_true,if_false,run_askRoom,(hT e de oW).run_sizeOf w,Int.toNat_natCast];by_cases h0:m*de.size=0
     ·have hm:m=0:=by
       rcases ajj.1 h0 with h|h
       ·exact h
       ·omega
      subst hm;have G6:∀f:Nat→Value,(Array.range 0).map f = #[]:=fun f=>by simp
      simp only[Nat.zero_mul,if_true,Sem.run_bind,Sem.run_pure,Result.andThen_ok,G6];rfl
     ·simp only[h0,if_false,Sem.run_bind,hz,Result.andThen_ok,Sem.run_pure];rfl
    cases hs:Nat.ble 1 de.size with
    |false=>simp[hs] at ar
    |true =>
     simp only[hs,cond_true] at ar;injection ar with ar;subst ar
     obtain⟨h1,bT⟩:=bT.cons;obtain⟨h2,bT⟩:=bT.cons;obtain⟨h3,bT⟩:=bT.cons;obtain⟨h4,h5⟩:=bT.cons;have h5:(List.replicate m (jk .none de)).flatten=out:=h5;subst h5;have NY:1≤de.size:=afS hs;have uT:bE I w ((List.replicate m (jk .none de)).flatten) ((Array.range (m*de.size)).map (z.cells[·%z.cells.size]!)).toList:=Bf ((hc I w).jk .none) m (m*de.size) (by rw[Hf]) (by omega);refine⟨_,_,cv rfl (exec h1 h2 h3 h4 NY),vF.new hp.lb hp.ib (fun j c hj => ?_) (.inr ⟨m,de.size,rfl,rfl,by simp⟩)⟩;obtain⟨u,g1,g2,g3⟩:=uT.rI (β:=β) (L:=L) j c hj;exact⟨u,by rwa[ahh] at g1,g2,g3⟩
   ·cases ar
  ·cases ar
 ·cases ar
end
end Go.Proofs.YtcpnocgollpbhaaGreatDoor.Sym
