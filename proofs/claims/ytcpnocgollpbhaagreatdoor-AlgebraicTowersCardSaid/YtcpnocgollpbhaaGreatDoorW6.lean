/- Lemmas for the statements of this seat. -/
import Derived.Test.YtcpnocgollpbhaaGreatDoorW5
namespace Go.Proofs.YtcpnocgollpbhaaGreatDoor.Sym
open Go Go.RowKit
section
variable {P:Program} {T:lh} {a:Act} {w:World} {β:Nat→Option Nat} {L I:Nat→Prop} {aK:aT} {ρ:Operand→Option EV} {h:Hint} {res:oP}
variable {dst:Option Tmp} {ty:TypeId} {pos:String} {after:Array Edge} {guard:Option (Nat×Bool)}
theorem J8{t:TypeId}{x:Operand}(hT:oE P T)(hp:Bq a w β L I aK ρ)(aw:cw T aK dst (.load t x) ρ h=some res)(cv:dX res.ob):dy P ⟨dst,.load t x,ty,pos,after,guard⟩ a β L I w res:=by
 simp only[cw] at aw;split at aw
 ·rename_i d r off hd hx;obtain⟨WR,b,oQ,hv⟩:=hp.ev x _ hx;split at aw
  ·rename_i cells hc;obtain⟨v,h1,h2,h3⟩:=E1 (hT t d hd) (hp.st r cells hc WR) oQ aw cv;obtain⟨e,new,ob⟩:=res;subst h3;refine dy.pure (cF rfl ?_) h2;rw[hv];simp only[Instr.loadAt,Instr.sureAddr,Sem.run_bind,Sem.run_pure,Result.andThen_ok];exact h1
  ·cases aw
 ·rename_i d cells hd hx;obtain⟨b,o,hv,hb,hc⟩:=hp.ev x _ hx;cases ha:d.agg with
  |true =>
   simp only[ha,cond_true] at aw;cases hs:Nat.ble d.size cells.length with
   |false=>simp[hs] at aw
   |true =>
    simp only[hs,cond_true] at aw;rw[cH aw];have OD:d.size≤cells.length:=afv hs;obtain⟨v,h1,h2⟩:=tH (hT t d hd) ha (b:=b) (o:=o) (ps:=cells.take d.size) (by simp;omega) (fun j x hj=>by
     rw[agh] at hj;split at hj
     ·exact hc j x hj
     ·cases hj)
    refine dy.pure (e := .pv _) (cF rfl ?_) h2;rw[hv];simp only[Instr.loadAt,Instr.sureAddr,Sem.run_bind,Sem.run_pure,Result.andThen_ok];exact h1
  |false =>
   simp only[ha,cond_false] at aw;split at aw
   ·rename_i p r;rw[cH aw];obtain⟨_,u,h2,h3⟩:=hc 0 p rfl;refine dy.pure (e := .pv p) (cF rfl ?_) h3;rw[hv];simp only[Instr.loadAt,Instr.sureAddr,Sem.run_bind,Sem.run_pure,Result.andThen_ok];exact oF (hT t d hd) ha h2
   ·cases aw
 ·cases aw
theorem Cx{x:Operand}(hp:Bq a w β L I aK ρ)(aw:cw T aK dst (.nilCheck x) ρ h=some res):dy P ⟨dst,.nilCheck x,ty,pos,after,guard⟩ a β L I w res:=by
 simp only[cw] at aw;split at aw
 ·rename_i r off hx;rw[cH aw];have he:=hp.ev x _ hx;obtain⟨_,b,_,hv⟩:=he;refine dy.pure ?_ (hp.ev x _ hx);simp only[execOp,hv];rfl
 ·rename_i c hx;rw[cH aw];have he:=hp.ev x _ hx;obtain⟨b,o,hv,_⟩:=he;refine dy.pure ?_ (hp.ev x _ hx);simp only[execOp,hv];rfl
 ·rename_i r off hx;rw[cH aw];have he:=hp.ev x _ hx;obtain⟨_,b,_,hv⟩:=he;refine dy.pure ?_ (hp.ev x _ hx);simp only[execOp,hv];rfl
 ·cases aw
theorem M8{t:TypeId}{p:PV}(hT:oE P T)(ht:Rz T t p=true):Uh P t p:=by
 unfold Rz at ht;unfold Uh;split at ht
 ·split at ht
  ·rename_i d hd;split at ht
   ·rename_i hk;obtain⟨u,hu,_,hf⟩:=(hT t d hd).under;rw[hk] at hf;have hf:u = .bool:=hf;subst hf;exact hu
   ·cases ht
  ·cases ht
 ·split at ht
  ·rename_i d hd;split at ht
   ·rename_i hk;obtain⟨u,hu,_,hf⟩:=(hT t d hd).under;rw[hk] at hf;obtain⟨ms,rfl⟩:∃ms,u = .interface ms:=hf;exact⟨ms,hu⟩
   ·cases ht
  ·cases ht
 ·split at ht
  ·rename_i d hd;split at ht
   ·rename_i hk;obtain⟨u,hu,_,hf⟩:=(hT t d hd).under;rw[hk] at hf;obtain⟨ms,rfl⟩:∃ms,u = .interface ms:=hf;exact⟨ms,hu⟩
   ·cases ht
  ·cases ht
 ·split at ht
  ·rename_i d hd;rw[afA,agN] at ht;exact⟨d.Rh,(hT t d hd).Rh (fun e=>by rw[e] at ht;simp at ht),ht.2⟩
  ·cases ht
 ·split<;>first|trivial|(exfalso;simp_all)
theorem H4{op:BinOp}{t yt:TypeId}{x y:Operand}(hT:oE P T)(hp:Bq a w β L I aK ρ)(aw:cw T aK dst (.binOp op t x y yt) ρ h=some res)(cv:dX res.ob) :
  dy P ⟨dst,.binOp op t x y yt,ty,pos,after,guard⟩ a β L I w res:=by
 simp only[cw] at aw;split at aw
 ·rename_i p q hx hy;have M9:Rd I w p (a.eval x):=hp.ev x _ hx;have hqy:Rd I w q (a.eval y):=hp.ev y _ hy;cases ht:Rz T t p with
  |false=>simp[ht] at aw
  |true =>
   simp only[ht,cond_true] at aw;have Tg:=M8 hT ht;split at aw
   ·rename_i r;injection aw with aw;subst aw
    obtain⟨v,h1,h2⟩:=EY w M9 hqy cv Tg;exact dy.pure (e := .pv r) (cF rfl h1) h2
   ·split at aw
    ·rename_i r hs;rw[cH aw];obtain⟨v,h1,h2⟩:=EY w M9 hqy hs Tg;exact dy.pure (e := .pv r) (cF rfl h1) h2
    ·cases aw
 ·cases aw
theorem J9{op:UnOp}{t:TypeId}{x:Operand}(hp:Bq a w β L I aK ρ)(aw:cw T aK dst (.unOp op t x) ρ h=some res)(cv:dX res.ob) :
  dy P ⟨dst,.unOp op t x,ty,pos,after,guard⟩ a β L I w res:=by
 simp only[cw] at aw;split at aw
 ·rename_i p hx;have M9:Rd I w p (a.eval x):=hp.ev x _ hx;split at aw
  ·rename_i r;injection aw with aw;subst aw
   obtain⟨v,h1,h2⟩:=HV (P:=P) w M9 cv;exact dy.pure (e := .pv r) (cF rfl h1) h2
  ·split at aw
   ·rename_i r hs;rw[cH aw];obtain⟨v,h1,h2⟩:=HV (P:=P) w M9 hs;exact dy.pure (e := .pv r) (cF rfl h1) h2
   ·cases aw
 ·cases aw
theorem Ey{s t:TypeId}{x:Operand}(hT:oE P T)(hp:Bq a w β L I aK ρ)(aw:cw T aK dst (.convert s t x) ρ h=some res)(cv:dX res.ob) :
  dy P ⟨dst,.convert s t x,ty,pos,after,guard⟩ a β L I w res:=by
 simp only[cw] at aw;split at aw
 ·rename_i ds d j n RD hd hx;have M9:Rd I w (.int j n) (a.eval x):=hp.ev x _ hx;have hv:a.eval x = .int j n:=by generalize a.eval x=v at M9;cases M9;rfl
  split at aw
  ·rename_i k hk;obtain⟨u,hu,_,hf⟩:=(hT t d hd).under;rw[hk] at hf;have hf:u = .int k:=hf;subst hf;obtain⟨us,Ex,_⟩:=(hT s ds RD).under;have hr:(convert s t (a.eval x)).run P w = .ok (.int k (k.wrap n)) w:=by
    rw[hv];simp[convert,run_underlying hu,run_underlying Ex,Conv.intToInt]
   split at aw
   ·rename_i k' m;cases Ev:decide (k=k') with
    |false=>simp[Ev] at aw
    |true =>
     simp only[Ev,cond_true] at aw;injection aw with aw;subst aw
     have hw:k.wrap n=m:=cv;rw[hw] at hr;exact dy.pure (e := .pv _) (cF rfl hr) (Rd.int _ _)
   ·rw[cH aw];exact dy.pure (e := .pv _) (cF rfl hr) (Rd.int _ _)
  ·cases aw
 ·cases aw
theorem vZ{t:TypeId}{x:Operand}(hT:oE P T)(hp:Bq a w β L I aK ρ)(aw:cw T aK dst (.makeInterface t x) ρ h=some res) :
  dy P ⟨dst,.makeInterface t x,ty,pos,after,guard⟩ a β L I w res:=by
 simp only[cw] at aw;split at aw
 ·rename_i d p hd hx;have M9:Rd I w p (a.eval x):=hp.ev x _ hx;obtain⟨u,hu,_,hf⟩:=(hT t d hd).under;have key:(∀ms,u ≠ .interface ms)→(Instr.makeInterface t (a.eval x)).run P w = .ok (.iface t (a.eval x)) w:=by
   intro fT;cases u<;>first|(exact absurd rfl (fT _))|simp[Instr.makeInterface,run_underlying hu]
  split at aw
  ·cases aw
  ·cases aw
  ·rename_i h1 h2;rw[cH aw];refine dy.pure (e := .pv _) (cF rfl (key fun ms e => ?_)) (Rd.iface _ _ _ M9);subst e;cases hk:d.kind<;>rw[hk] at hf<;>simp only[TK.fits] at hf
   ·cases hf
   ·cases hf
   ·cases hf
   ·exact h1 hk
   ·cases hf
   ·obtain⟨ff,Lt,_⟩:=hf;cases Lt
   ·obtain⟨Lt,_⟩:=hf;cases Lt
   ·exact h2 hk
 ·cases aw
theorem Bs{t:TypeId}{x y:Operand}(hT:oE P T)(hp:Bq a w β L I aK ρ)(aw:cw T aK dst (.makeSlice t x y) ρ h=some res)(cv:dX res.ob) :
  dy P ⟨dst,.makeSlice t x y,ty,pos,after,guard⟩ a β L I w res:=by
 simp only[cw] at aw;split at aw
 ·rename_i d n n' r m out hd hx hy;have M9:Rd I w (.int .i64 n) (a.eval x):=hp.ev x _ hx;have hpy:Rd I w (.int .i64 n') (a.eval y):=hp.ev y _ hy;have Em:a.eval x = .int .i64 n:=by generalize a.eval x=v at M9;cases M9;rfl
  have zE:a.eval y = .int .i64 n':=by generalize a.eval y=v at hpy;cases hpy;rfl
  split at aw
  ·rename_i e hk;obtain⟨u,hu,_,hf⟩:=(hT t d hd).under;rw[hk] at hf;have hf:u = .slice e:=hf;subst hf;split at aw
   ·rename_i de pE;obtain⟨i,hi,_,_,Zh⟩:=(hT e de pE).run_typeInfo w;obtain⟨z,hz,_,HW,hc⟩:=(hT e de pE).r6 w;have exec:n=(m:Int)→n'=(m:Int)→de.bytes*m≤140737488355328→m<9223372036854775808→1≤de.size →
      (Instr.makeSlice t (a.eval x) (a.eval y)).run P w = .ok (.slice (some ⟨w.heap.size,0,none⟩) m m) (w.alloc (.cells ((Array.range (m*de.size)).map (z.cells[·%z.cells.size]!)) e)):=by
     intro h1 h2 h3 h4 h5;rw[Em,zE,h1,h2];have hw:IntKind.i64.wrap (m:Int)=m:=by have:=IntKind.wrap_i64 (m:Int);omega
     have hb:¬((de.bytes:Int)*(m:Int)>2^48):=by have OE:((de.bytes*m:Nat):Int)≤((140737488355328:Nat):Int):=aiI.2 h3;rw[agf] at OE;intro h6;have h7:((140737488355328:Nat):Int)=140737488355328:=rfl;omega
     have WS:((((m:Int)<0||decide ((de.bytes:Int)*(m:Int)>2^48))||decide ((m:Int)<0))||decide ((m:Int)>(m:Int)))=false:=by simp only[Bool.or_eq_false_iff,decide_eq_false_iff_not];exact⟨⟨⟨by omega,hb⟩,by omega⟩,by omega⟩
     simp only[Instr.makeSlice,Sem.run_bind,run_underlying hu,Result.andThen_ok,asInt,asIntOf,Sem.run_pure,hi,Zh,hw,WS,Bool.false_eq_true,if_false,run_askRoom,(hT e de pE).run_sizeOf w,Int.toNat_natCast];by_cases h0:m*de.size=0
     ·have hm:m=0:=by
       rcases aiS.1 h0 with h|h
       ·exact h
       ·omega
      subst hm;have E2:∀f:Nat→Value,(Array.range 0).map f = #[]:=fun f=>by simp
      simp only[Nat.zero_mul,if_true,Sem.run_bind,Sem.run_pure,Result.andThen_ok,E2];rfl
     ·simp only[h0,if_false,Sem.run_bind,hz,Result.andThen_ok,Sem.run_pure];rfl
    cases hs:Nat.ble 1 de.size with
    |false=>simp[hs] at aw
    |true =>
     simp only[hs,cond_true] at aw;injection aw with aw;subst aw
     obtain⟨h1,cv⟩:=cv.cons;obtain⟨h2,cv⟩:=cv.cons;obtain⟨h3,cv⟩:=cv.cons;obtain⟨h4,h5⟩:=cv.cons;have h5:(List.replicate m (jC .none de)).flatten=out:=h5;subst h5;have OD:1≤de.size:=afv hs;have vY:bM I w ((List.replicate m (jC .none de)).flatten) ((Array.range (m*de.size)).map (z.cells[·%z.cells.size]!)).toList:=Cv ((hc I w).jC .none) m (m*de.size) (by rw[HW]) (by omega);refine⟨_,_,cF rfl (exec h1 h2 h3 h4 OD),wT.new hp.lb hp.ib (fun j c hj => ?_) (.inr ⟨m,de.size,rfl,rfl,by simp⟩)⟩;obtain⟨u,g1,g2,g3⟩:=vY.sG (β:=β) (L:=L) j c hj;exact⟨u,by rwa[agQ] at g1,g2,g3⟩
   ·cases aw
  ·cases aw
 ·cases aw
end
end Go.Proofs.YtcpnocgollpbhaaGreatDoor.Sym
