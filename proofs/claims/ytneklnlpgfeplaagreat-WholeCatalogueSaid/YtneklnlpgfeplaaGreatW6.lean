/- Lemmas for the statements of this seat. -/
import Derived.Test.YtneklnlpgfeplaaGreatW5
namespace Go.Proofs.YtneklnlpgfeplaaGreat.Sym
open Go Go.RowKit
section
variable {P:Program} {T:ja} {a:Act} {w:World} {β:Nat→Option Nat} {L I:Nat→Prop} {aP:aY} {ρ:Operand→Option EV} {h:Hint} {res:nX}
variable {dst:Option Tmp} {ty:TypeId} {pos:String} {after:Array Edge} {guard:Option (Nat×Bool)}
theorem Gg{t:TypeId}{x:Operand}(hT:mm P T)(hp:xZ a w β L I aP ρ)(aJ:cI T aP dst (.load t x) ρ h=some res)(cf:dW res.ob):dw P ⟨dst,.load t x,ty,pos,after,guard⟩ a β L I w res:=by
 simp only[cI] at aJ;split at aJ
 ·rename_i d r off hd hx;obtain⟨Od,b,lA,hv⟩:=hp.ev x _ hx;split at aJ
  ·rename_i cells hc;obtain⟨v,h1,h2,h3⟩:=Cr (hT t d hd) (hp.st r cells hc Od) lA aJ cf;obtain⟨e,new,ob⟩:=res;subst h3;refine dw.pure (cJ rfl ?_) h2;rw[hv];simp only[Instr.loadAt,Instr.sureAddr,Sem.run_bind,Sem.run_pure,Result.andThen_ok];exact h1
  ·cases aJ
 ·rename_i d cells hd hx;obtain⟨b,o,hv,hb,hc⟩:=hp.ev x _ hx;cases ha:d.agg with
  |true =>
   simp only[ha,cond_true] at aJ;cases hs:Nat.ble d.size cells.length with
   |false=>simp[hs] at aJ
   |true =>
    simp only[hs,cond_true] at aJ;rw[cF aJ];have Jt:d.size≤cells.length:=abM hs;obtain⟨v,h1,h2⟩:=r6 (hT t d hd) ha (b:=b) (o:=o) (ps:=cells.take d.size) (by simp;omega) (fun j x hj=>by
     rw[ack] at hj;split at hj
     ·exact hc j x hj
     ·cases hj)
    refine dw.pure (e := .pv _) (cJ rfl ?_) h2;rw[hv];simp only[Instr.loadAt,Instr.sureAddr,Sem.run_bind,Sem.run_pure,Result.andThen_ok];exact h1
  |false =>
   simp only[ha,cond_false] at aJ;split at aJ
   ·rename_i p r;rw[cF aJ];obtain⟨_,u,h2,h3⟩:=hc 0 p rfl;refine dw.pure (e := .pv p) (cJ rfl ?_) h3;rw[hv];simp only[Instr.loadAt,Instr.sureAddr,Sem.run_bind,Sem.run_pure,Result.andThen_ok];exact nM (hT t d hd) ha h2
   ·cases aJ
 ·cases aJ
theorem zU{x:Operand}(hp:xZ a w β L I aP ρ)(aJ:cI T aP dst (.nilCheck x) ρ h=some res):dw P ⟨dst,.nilCheck x,ty,pos,after,guard⟩ a β L I w res:=by
 simp only[cI] at aJ;split at aJ
 ·rename_i r off hx;rw[cF aJ];have he:=hp.ev x _ hx;obtain⟨_,b,_,hv⟩:=he;refine dw.pure ?_ (hp.ev x _ hx);simp only[execOp,hv];rfl
 ·rename_i c hx;rw[cF aJ];have he:=hp.ev x _ hx;obtain⟨b,o,hv,_⟩:=he;refine dw.pure ?_ (hp.ev x _ hx);simp only[execOp,hv];rfl
 ·rename_i r off hx;rw[cF aJ];have he:=hp.ev x _ hx;obtain⟨_,b,_,hv⟩:=he;refine dw.pure ?_ (hp.ev x _ hx);simp only[execOp,hv];rfl
 ·cases aJ
theorem IG{t:TypeId}{p:PV}(hT:mm P T)(ht:MF T t p=true):O4 P t p:=by
 unfold MF at ht;unfold O4;split at ht
 ·split at ht
  ·rename_i d hd;split at ht
   ·rename_i hk;obtain⟨u,hu,_,hf⟩:=(hT t d hd).under;rw[hk] at hf;have hf:u = .bool:=hf;subst hf;exact hu
   ·cases ht
  ·cases ht
 ·split at ht
  ·rename_i d hd;split at ht
   ·rename_i hk;obtain⟨u,hu,_,hf⟩:=(hT t d hd).under;rw[hk] at hf;obtain⟨ms,rfl⟩:∃ms,u = .interface ms:=hf;exact⟨ms,hu⟩
   ·cases ht
  ·cases ht
 ·split at ht
  ·rename_i d hd;split at ht
   ·rename_i hk;obtain⟨u,hu,_,hf⟩:=(hT t d hd).under;rw[hk] at hf;obtain⟨ms,rfl⟩:∃ms,u = .interface ms:=hf;exact⟨ms,hu⟩
   ·cases ht
  ·cases ht
 ·split at ht
  ·rename_i d hd;rw[abK,acz] at ht;exact⟨d.Ml,(hT t d hd).Ml (fun e=>by rw[e] at ht;simp at ht),ht.2⟩
  ·cases ht
 ·split<;>first|trivial|(exfalso;simp_all)
theorem ED{op:BinOp}{t yt:TypeId}{x y:Operand}(hT:mm P T)(hp:xZ a w β L I aP ρ)(aJ:cI T aP dst (.binOp op t x y yt) ρ h=some res)(cf:dW res.ob) :
  dw P ⟨dst,.binOp op t x y yt,ty,pos,after,guard⟩ a β L I w res:=by
 simp only[cI] at aJ;split at aJ
 ·rename_i p q hx hy;have IH:Rd I w p (a.eval x):=hp.ev x _ hx;have Yg:Rd I w q (a.eval y):=hp.ev y _ hy;cases ht:MF T t p with
  |false=>simp[ht] at aJ
  |true =>
   simp only[ht,cond_true] at aJ;have Ob:=IG hT ht;split at aJ
   ·rename_i r;injection aJ with aJ;subst aJ
    obtain⟨v,h1,h2⟩:=Cn w IH Yg cf Ob;exact dw.pure (e := .pv r) (cJ rfl h1) h2
   ·split at aJ
    ·rename_i r hs;rw[cF aJ];obtain⟨v,h1,h2⟩:=Cn w IH Yg hs Ob;exact dw.pure (e := .pv r) (cJ rfl h1) h2
    ·cases aJ
 ·cases aJ
theorem Gh{op:UnOp}{t:TypeId}{x:Operand}(hp:xZ a w β L I aP ρ)(aJ:cI T aP dst (.unOp op t x) ρ h=some res)(cf:dW res.ob) :
  dw P ⟨dst,.unOp op t x,ty,pos,after,guard⟩ a β L I w res:=by
 simp only[cI] at aJ;split at aJ
 ·rename_i p hx;have IH:Rd I w p (a.eval x):=hp.ev x _ hx;split at aJ
  ·rename_i r;injection aJ with aJ;subst aJ
   obtain⟨v,h1,h2⟩:=Ev (P:=P) w IH cf;exact dw.pure (e := .pv r) (cJ rfl h1) h2
  ·split at aJ
   ·rename_i r hs;rw[cF aJ];obtain⟨v,h1,h2⟩:=Ev (P:=P) w IH hs;exact dw.pure (e := .pv r) (cJ rfl h1) h2
   ·cases aJ
 ·cases aJ
theorem B0{s t:TypeId}{x:Operand}(hT:mm P T)(hp:xZ a w β L I aP ρ)(aJ:cI T aP dst (.convert s t x) ρ h=some res)(cf:dW res.ob) :
  dw P ⟨dst,.convert s t x,ty,pos,after,guard⟩ a β L I w res:=by
 simp only[cI] at aJ;split at aJ
 ·rename_i ds d j n MI hd hx;have IH:Rd I w (.int j n) (a.eval x):=hp.ev x _ hx;have hv:a.eval x = .int j n:=by generalize a.eval x=v at IH;cases IH;rfl
  split at aJ
  ·rename_i k hk;obtain⟨u,hu,_,hf⟩:=(hT t d hd).under;rw[hk] at hf;have hf:u = .int k:=hf;subst hf;obtain⟨us,zR,_⟩:=(hT s ds MI).under;have hr:(convert s t (a.eval x)).run P w = .ok (.int k (k.wrap n)) w:=by
    rw[hv];simp[convert,run_underlying hu,run_underlying zR,Conv.intToInt]
   split at aJ
   ·rename_i k' m;cases BY:decide (k=k') with
    |false=>simp[BY] at aJ
    |true =>
     simp only[BY,cond_true] at aJ;injection aJ with aJ;subst aJ
     have hw:k.wrap n=m:=cf;rw[hw] at hr;exact dw.pure (e := .pv _) (cJ rfl hr) (Rd.int _ _)
   ·rw[cF aJ];exact dw.pure (e := .pv _) (cJ rfl hr) (Rd.int _ _)
  ·cases aJ
 ·cases aJ
theorem ux{t:TypeId}{x:Operand}(hT:mm P T)(hp:xZ a w β L I aP ρ)(aJ:cI T aP dst (.makeInterface t x) ρ h=some res) :
  dw P ⟨dst,.makeInterface t x,ty,pos,after,guard⟩ a β L I w res:=by
 simp only[cI] at aJ;split at aJ
 ·rename_i d p hd hx;have IH:Rd I w p (a.eval x):=hp.ev x _ hx;obtain⟨u,hu,_,hf⟩:=(hT t d hd).under;have key:(∀ms,u ≠ .interface ms)→(Instr.makeInterface t (a.eval x)).run P w = .ok (.iface t (a.eval x)) w:=by
   intro nZ;cases u<;>first|(exact absurd rfl (nZ _))|simp[Instr.makeInterface,run_underlying hu]
  split at aJ
  ·cases aJ
  ·cases aJ
  ·rename_i h1 h2;rw[cF aJ];refine dw.pure (e := .pv _) (cJ rfl (key fun ms e => ?_)) (Rd.iface _ _ _ IH);subst e;cases hk:d.kind<;>rw[hk] at hf<;>simp only[TK.fits] at hf
   ·cases hf
   ·cases hf
   ·cases hf
   ·exact h1 hk
   ·cases hf
   ·obtain⟨ff,Mm,_⟩:=hf;cases Mm
   ·obtain⟨Mm,_⟩:=hf;cases Mm
   ·exact h2 hk
 ·cases aJ
theorem yS{t:TypeId}{x y:Operand}(hT:mm P T)(hp:xZ a w β L I aP ρ)(aJ:cI T aP dst (.makeSlice t x y) ρ h=some res)(cf:dW res.ob) :
  dw P ⟨dst,.makeSlice t x y,ty,pos,after,guard⟩ a β L I w res:=by
 simp only[cI] at aJ;split at aJ
 ·rename_i d n n' r m out hd hx hy;have IH:Rd I w (.int .i64 n) (a.eval x):=hp.ev x _ hx;have Yh:Rd I w (.int .i64 n') (a.eval y):=hp.ev y _ hy;have BU:a.eval x = .int .i64 n:=by generalize a.eval x=v at IH;cases IH;rfl
  have xp:a.eval y = .int .i64 n':=by generalize a.eval y=v at Yh;cases Yh;rfl
  split at aJ
  ·rename_i e hk;obtain⟨u,hu,_,hf⟩:=(hT t d hd).under;rw[hk] at hf;have hf:u = .slice e:=hf;subst hf;split at aJ
   ·rename_i de nL;obtain⟨i,hi,_,_,Vc⟩:=(hT e de nL).run_typeInfo w;obtain⟨z,hz,_,yQ,hc⟩:=(hT e de nL).oD w;have exec:n=(m:Int)→n'=(m:Int)→de.bytes*m≤140737488355328→m<9223372036854775808→1≤de.size →
      (Instr.makeSlice t (a.eval x) (a.eval y)).run P w = .ok (.slice (some ⟨w.heap.size,0,none⟩) m m) (w.alloc (.cells ((Array.range (m*de.size)).map (z.cells[·%z.cells.size]!)) e)):=by
     intro h1 h2 h3 h4 h5;rw[BU,xp,h1,h2];have hw:IntKind.i64.wrap (m:Int)=m:=by have:=IntKind.wrap_i64 (m:Int);omega
     have hb:¬((de.bytes:Int)*(m:Int)>2^48):=by have II:((de.bytes*m:Nat):Int)≤((140737488355328:Nat):Int):=aey.2 h3;rw[adi] at II;intro h6;have h7:((140737488355328:Nat):Int)=140737488355328:=rfl;omega
     have RT:((((m:Int)<0||decide ((de.bytes:Int)*(m:Int)>2^48))||decide ((m:Int)<0))||decide ((m:Int)>(m:Int)))=false:=by simp only[Bool.or_eq_false_iff,decide_eq_false_iff_not];exact⟨⟨⟨by omega,hb⟩,by omega⟩,by omega⟩
     simp only[Instr.makeSlice,Sem.run_bind,run_underlying hu,Result.andThen_ok,asInt,asIntOf,Sem.run_pure,hi,Vc,hw,RT,Bool.false_eq_true,if_false,run_askRoom,(hT e de nL).run_sizeOf w,Int.toNat_natCast];by_cases h0:m*de.size=0
     ·have hm:m=0:=by
       rcases aeK.1 h0 with h|h
       ·exact h
       ·omega
      subst hm;have Mn:∀f:Nat→Value,(Array.range 0).map f = #[]:=fun f=>by simp
      simp only[Nat.zero_mul,if_true,Sem.run_bind,Sem.run_pure,Result.andThen_ok,Mn];rfl
     ·simp only[h0,if_false,Sem.run_bind,hz,Result.andThen_ok,Sem.run_pure];rfl
    cases hs:Nat.ble 1 de.size with
    |false=>simp[hs] at aJ
    |true =>
     simp only[hs,cond_true] at aJ;injection aJ with aJ;subst aJ
     obtain⟨h1,cf⟩:=cf.cons;obtain⟨h2,cf⟩:=cf.cons;obtain⟨h3,cf⟩:=cf.cons;obtain⟨h4,h5⟩:=cf.cons;have h5:(List.replicate m (gO .none de)).flatten=out:=h5;subst h5;have Jt:1≤de.size:=abM hs;have uw:bO I w ((List.replicate m (gO .none de)).flatten) ((Array.range (m*de.size)).map (z.cells[·%z.cells.size]!)).toList:=zS ((hc I w).gO .none) m (m*de.size) (by rw[yQ]) (by omega);refine⟨_,_,cJ rfl (exec h1 h2 h3 h4 Jt),vf.new hp.lb hp.ib (fun j c hj => ?_) (.inr ⟨m,de.size,rfl,rfl,by simp⟩)⟩;obtain⟨u,g1,g2,g3⟩:=uw.oe (β:=β) (L:=L) j c hj;exact⟨u,by rwa[acB] at g1,g2,g3⟩
   ·cases aJ
  ·cases aJ
 ·cases aJ
end
end Go.Proofs.YtneklnlpgfeplaaGreat.Sym
