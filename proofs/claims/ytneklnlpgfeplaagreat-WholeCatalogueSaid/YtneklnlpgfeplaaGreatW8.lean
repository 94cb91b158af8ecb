/- Lemmas for the statements of this seat. -/
import Derived.Test.YtneklnlpgfeplaaGreatW7
namespace Go.Proofs.YtneklnlpgfeplaaGreat.Sym
open Go Go.RowKit
section
variable {P:Program} {T:ja} {a:Act} {w:World} {β:Nat→Option Nat} {L I:Nat→Prop} {aP:aY} {ρ:Operand→Option EV} {h:Hint} {res:nX}
variable {dst:Option Tmp} {ty:TypeId} {pos:String} {after:Array Edge} {guard:Option (Nat×Bool)}
theorem re{t:TypeId}{d:TD}{fs:List (Nat×Nat×Bool)}{f off size:Nat}{agg:Bool}(hd:od P t d)(hk:d.kind = .struct fs)(hf:fs[f]? = some (off,size,agg)) :
  ∃ff fl,P.underlying t=some (.struct ff)∧ff[f]? = some fl∧fl.offset=off∧P.cellsOf fl.type=size∧xY P fl.type=agg∧(P.info? fl.type).isSome=true∧(P.underlying fl.type).isSome=true:=by
 obtain⟨u,hu,_,Mm⟩:=hd.under;rw[hk] at Mm;obtain⟨ff,rfl,h1,h2⟩:=Mm;rw[←h1,abR] at hf;cases hx:ff.toList[f]? with
 |none=>rw[hx] at hf;cases hf
 |some fl =>
  rw[hx] at hf;simp only[Option.map_some,Option.some.injEq,Prod.mk.injEq] at hf;have hm:fl∈ff:=by simpa using ac5 hx
  exact⟨ff,fl,hu,by simpa using hx,hf.1,hf.2.1,hf.2.2,h2 fl hm⟩
theorem yV{t:TypeId}{x:Operand}{f:Nat}(hT:mm P T)(hp:xZ a w β L I aP ρ)(aJ:cI T aP dst (.fieldAddr t x f) ρ h=some res) :
  dw P ⟨dst,.fieldAddr t x f,ty,pos,after,guard⟩ a β L I w res:=by
 simp only[cI] at aJ;split at aJ
 ·rename_i d e hd hx;split at aJ
  ·rename_i fs hk;split at aJ
   ·rename_i off size agg hf;obtain⟨ff,fl,hu,JV,JW,ji,_,zX,_⟩:=re (hT t d hd) hk hf;cases hs:Nat.ble 1 size with
    |false=>simp[hs] at aJ
    |true =>
     simp only[hs,cond_true] at aJ;have Jt:1≤size:=abM hs;have exec:∀b o,a.eval x = .pointer (some ⟨b,o,none⟩)→(Instr.fieldAt t (a.eval x) f).run P w = .ok (.pointer (some ⟨b,o+off,none⟩)) w:=by
      intro b o hv;obtain⟨i,hi⟩:=abP.1 zX;have sM:(sizeOf fl.type).run P w = .ok (P.cellsOf fl.type) w:=by simp[sizeOf,typeInfo,hi,Program.cellsOf]
      rw[hv];unfold Instr.fieldAt;simp only[Sem.run_bind,run_underlying hu,Result.andThen_ok,JV,Instr.sureAddr,Sem.run_pure,fieldPlace,sM];rw[ac3 (by omega)];simp only[Sem.run_pure,Result.andThen_ok,gw,JW]
     split at aJ
     ·rename_i r o;rw[cF aJ];obtain⟨hL,b,hb,hv⟩:=hp.ev x _ hx;exact dw.pure (e := .ptr _ _) (cJ rfl (exec _ _ hv)) ⟨hL,b,hb,rfl⟩
     ·rename_i cs;rw[cF aJ];obtain⟨b,o,hv,hb,hc⟩:=hp.ev x _ hx;refine dw.pure (e := .mC _) (cJ rfl (exec _ _ hv)) ⟨b,o+off,rfl,hb,fun j y hy => ?_⟩;rw[acq] at hy;have:=hc _ y hy;rw[ael];exact this
     ·rename_i r o;rw[cF aJ];obtain⟨hL,b,hb,hv⟩:=hp.ev x _ hx;exact dw.pure (e := .mE _ _) (cJ rfl (exec _ _ hv)) ⟨hL,b,hb,rfl⟩
     ·cases aJ
   ·cases aJ
  ·cases aJ
 ·cases aJ
theorem EH{t:TypeId}{x:Operand}{f:Nat}(hT:mm P T)(hp:xZ a w β L I aP ρ)(aJ:cI T aP dst (.field t x f) ρ h=some res) :
  dw P ⟨dst,.field t x f,ty,pos,after,guard⟩ a β L I w res:=by
 simp only[cI] at aJ;split at aJ
 ·rename_i d cs hd hx;split at aJ
  ·rename_i fs hk;split at aJ
   ·rename_i off size agg hf;split at aJ
    ·rename_i p Ui;rw[cF aJ];obtain⟨ff,fl,hu,JV,JW,ji,Vf,zX,Vg⟩:=re (hT t d hd) hk hf;have hr:Rd I w (.agg cs) (a.eval x):=hp.ev x _ hx;generalize xn:a.eval x=v at hr;cases hr with
     |agg _ us hl ho hh =>have hc:bO I w cs us.toList:=⟨by simpa using hl,fun j c u hj Dl=>⟨ho j c hj,hh j c u hj (by simpa using Dl)⟩⟩;subst JW;subst ji;subst Vf;obtain⟨v,h1,h2⟩:=Eu w zX Vg hc Ui;refine dw.pure (e := .pv p) (cJ rfl ?_) h2;rw[xn];unfold Instr.field;simp only[Sem.run_bind,run_underlying hu,Result.andThen_ok,JV,asAgg,Sem.run_pure];exact h1
    ·cases aJ
   ·cases aJ
  ·cases aJ
 ·cases aJ
theorem yW{t:TypeId}{x i:Operand}(hT:mm P T)(hp:xZ a w β L I aP ρ)(aJ:cI T aP dst (.indexAddr t x i) ρ h=some res)(cf:dW res.ob) :
  dw P ⟨dst,.indexAddr t x i,ty,pos,after,guard⟩ a β L I w res:=by
 simp only[cI] at aJ;split at aJ
 ·rename_i d e ik n hd hx hi;have Rl:a.eval i = .int ik n:=sL (hp.ev i _ hi);split at aJ
  ·rename_i el hk;obtain⟨un,hu,_,hf⟩:=(hT t d hd).under;rw[hk] at hf;have hf:un = .slice el:=hf;subst hf;split at aJ
   ·rename_i de nL;have exec:∀(b o len c k:Nat),a.eval x = .slice (some ⟨b,o,none⟩) len c→n=(k:Int)→k<len→(Instr.indexAt t (a.eval x) (a.eval i)).run P w = .ok (.pointer (some ⟨b,o+k*de.size,none⟩)) w:=by
     intro b o len c k hv hn hk;subst hn;have zX:(0:Int)≤(k:Int)∧(k:Int)<(len:Int):=by omega
     rw[hv,Rl];unfold Instr.indexAt;simp only[Sem.run_bind,asIntOf,Sem.run_pure,Result.andThen_ok,run_underlying hu];have Yj:(if len≤1 then false else false:Bool)=false:=by split<;>rfl
     simp only[zX,and_self,if_true,Sem.run_bind,(hT el de nL).run_sizeOf w,Result.andThen_ok,Sem.run_pure,Int.toNat_natCast,gw]
    split at aJ
    ·rename_i r off len sz k;cases ji:Nat.beq sz de.size with
     |false=>simp[ji] at aJ
     |true =>
      simp only[ji,cond_true] at aJ;have Dt:sz=de.size:=abO ji;injection aJ with aJ;subst aJ
      obtain⟨h1,h2⟩:=cf.cons;have h2:k<len:=h2;obtain⟨hL,⟨_,EG,_⟩|⟨b,c,hb,hv,_⟩⟩:=hp.ev x _ hx
      ·omega
      ·exact dw.pure (e := .ptr _ _) (cJ rfl (exec _ _ _ _ k hv h1 h2)) ⟨hL,b,hb,by rw[Dt]⟩
    ·rename_i jj len sz k;cases ji:Nat.beq sz de.size with
     |false=>simp[ji] at aJ
     |true =>
      simp only[ji,cond_true] at aJ;have Dt:sz=de.size:=abO ji;injection aJ with aJ;subst aJ
      obtain⟨h1,h2⟩:=cf.cons;have h2:k<len:=h2;obtain⟨hL,⟨_,EG,_⟩|⟨b,c,hb,hv,_⟩⟩:=hp.ev x _ hx
      ·omega
      ·exact dw.pure (e := .mE _ _) (cJ rfl (exec _ _ _ _ k hv h1 h2)) ⟨hL,b,hb,by rw[Dt,acw]⟩
    ·rename_i xs k row;injection aJ with aJ;subst aJ
     obtain⟨h1,cf⟩:=cf.cons;obtain⟨h2,h3⟩:=cf.cons;have h3:row.length=de.size:=h3;have hr:Rd I w (.list xs) (a.eval x):=hp.ev x _ hx;have cT:k<xs.length:=(abL.1 h2).1;generalize xn:a.eval x=v at hr;cases hr with
     |nil=>simp at cT
     |list _ b o c s f hc hb hs ho hh =>
      have RU:s=de.size:=by rw[←hs k row h2,h3]
      subst RU;refine dw.pure (e := .mC _) (cJ rfl (exec b o _ c k xn h1 cT)) ⟨b,_,rfl,hb,fun j y hy => ?_⟩;have g:=ho k j row y h2 hy;refine⟨g.1,f k j,?_,hh k j row y h2 hy⟩;rw[ael];exact g.2
    ·cases aJ
   ·cases aJ
  ·rename_i len el hk;obtain⟨un,hu,_,hf⟩:=(hT t d hd).under;rw[hk] at hf;obtain⟨hf,_,_⟩:=hf;subst hf;split at aJ
   ·rename_i de nL;split at aJ
    ·rename_i r off k;injection aJ with aJ;subst aJ
     obtain⟨h1,h2⟩:=cf.cons;have h2:k<len:=h2;obtain⟨hL,b,hb,hv⟩:=hp.ev x _ hx;refine dw.pure (e := .ptr _ _) (v := .pointer (some ⟨b,off+k*de.size,none⟩)) (cJ rfl ?_) ⟨hL,b,hb,rfl⟩;subst h1;have zX:(0:Int)≤(k:Int)∧(k:Int)<(len:Int):=by omega
     rw[hv,Rl];unfold Instr.indexAt;simp only[Sem.run_bind,asIntOf,Sem.run_pure,Result.andThen_ok,run_underlying hu,Instr.sureAddr];simp only[zX,and_self,if_true,Sem.run_bind,(hT el de nL).run_sizeOf w,Result.andThen_ok,Sem.run_pure,Int.toNat_natCast,gw]
    ·cases aJ
   ·cases aJ
  ·cases aJ
 ·cases aJ
theorem B1{x:Operand}{i:Nat}(hp:xZ a w β L I aP ρ)(aJ:cI T aP dst (.extract x i) ρ h=some res) :
  dw P ⟨dst,.extract x i,ty,pos,after,guard⟩ a β L I w res:=by
 simp only[cI] at aJ;split at aJ
 ·rename_i vs hx;split at aJ
  ·rename_i p Yk;rw[cF aJ];have hr:Rd I w (.bg vs) (a.eval x):=hp.ev x _ hx;generalize xn:a.eval x=v at hr;cases hr with
   |bg _ us hl hh =>
    have hi:i<us.size:=by rw[←hl];exact(abL.1 Yk).1
    have hu:us[i]? = some us[i]:=acn hi;refine dw.pure (e := .pv p) (cJ rfl ?_) (hh i p _ Yk hu);rw[xn];simp[Instr.extract,hu]
  ·cases aJ
 ·rename_i r off ps hx;obtain⟨us,xn,ji,⟨u,MK,Mn,b,hb,rfl⟩,hh⟩:=hp.ev x _ hx;cases i with
  |zero =>rw[cF aJ];exact dw.pure (e := .ptr r off) (cJ rfl (by rw[xn];simp[Instr.extract,MK])) ⟨Mn,b,hb,rfl⟩
  |succ j =>
   simp only at aJ;split at aJ
   ·rename_i p RW;rw[cF aJ];have hi:j+1<us.size:=by have:=(abL.1 RW).1;omega
    have hu:us[j+1]? = some us[j+1]:=acn hi;exact dw.pure (e := .pv p) (cJ rfl (by rw[xn];simp[Instr.extract,hu])) (hh j p _ RW hu)
   ·cases aJ
 ·rename_i r off len sz ps hx;obtain⟨us,xn,ji,⟨u,MK,Mn⟩,hh⟩:=hp.ev x _ hx;cases i with
  |zero =>rw[cF aJ];exact dw.pure (e := .row r off len sz) (cJ rfl (by rw[xn];simp[Instr.extract,MK])) Mn
  |succ j =>
   simp only at aJ;split at aJ
   ·rename_i p RW;rw[cF aJ];have hi:j+1<us.size:=by have:=(abL.1 RW).1;omega
    have hu:us[j+1]? = some us[j+1]:=acn hi;exact dw.pure (e := .pv p) (cJ rfl (by rw[xn];simp[Instr.extract,hu])) (hh j p _ RW hu)
   ·cases aJ
 ·cases aJ
theorem xq{x:Operand}{xt t:TypeId}{ok:Bool}(hT:mm P T)(hp:xZ a w β L I aP ρ)(aJ:cI T aP dst (.typeAssert x xt t ok) ρ h=some res) :
  dw P ⟨dst,.typeAssert x xt t ok,ty,pos,after,guard⟩ a β L I w res:=by
 cases ok with
 |false=>simp[cI] at aJ
 |true =>
  simp only[cI] at aJ;split at aJ
  ·rename_i d u p hd hx;split at aJ
   ·rename_i k hk;cases hb:Nat.beq u t with
    |false=>simp[hb] at aJ
    |true =>
     simp only[hb,cond_true] at aJ;have Zw:u=t:=abO hb;subst Zw;rw[cF aJ];obtain⟨un,hu,_,hf⟩:=(hT u d hd).under;rw[hk] at hf;have hf:un = .int k:=hf;subst hf;have hr:Rd I w (.iface u p) (a.eval x):=hp.ev x _ hx;generalize xn:a.eval x=v at hr;cases hr with
     |iface _ _ v hv =>
      refine dw.pure (e := .pv _) (v := .tuple #[v,.bool true]) (cJ rfl ?_) (Rd.bg _ _ rfl (fun j c y hc hy => ?_))
      ·rw[xn];simp[Instr.typeAssert,run_underlying hu]
      ·match j,hc,hy with
       |0,hc,hy=>simp at hc hy;subst hc hy;exact hv
       |1,hc,hy=>simp at hc hy;subst hc hy;exact .bool _
       |j+2,hc,hy=>simp at hc
   ·cases aJ
  ·cases aJ
theorem ML{α:Type}{xs:Array α}{x:α}(h:xs.toList=[x]):xs = #[x]:=by apply adN;simpa using h
theorem yX{α:Type}{xs:Array α}{x y:α}(h:xs.toList=[x,y]):xs = #[x,y]:=by apply adN;simpa using h
theorem Gj{c:Call}(hT:mm P T)(hp:xZ a w β L I aP ρ)(aJ:cI T aP dst (.call c) ρ h=some res)(cf:dW res.ob) :
  dw P ⟨dst,.call c,ty,pos,after,guard⟩ a β L I w res:=by
 obtain⟨cl,args,FZ⟩:=c;simp only[cI] at aJ;split at aJ
 ·rename_i x t il Gk;have mF:=ML il;have wa:=ML Gk;subst mF;subst wa;split at aJ
  ·rename_i d e hd hx;split at aJ
   ·rename_i el n hk hn;obtain⟨un,hu,_,hf⟩:=(hT t d hd).under;rw[hk] at hf;have hf:un = .slice el:=hf;subst hf;have hv:∃ao c,a.eval x = .slice ao n c:=by
     have he:=hp.ev x e hx;cases e with
     |pv p =>
      cases p<;>simp[jT] at hn;subst hn;generalize a.eval x=v at he;cases he with
      |nil ao c=>exact⟨ao,c,rfl⟩
      |list _ b o c s f=>exact⟨_,c,rfl⟩
     |row r off len sz =>
      simp[jT] at hn;subst hn;obtain⟨_,⟨_,rfl,hv⟩|⟨b,c,_,hv,_⟩⟩:=he
      ·exact⟨_,_,hv⟩
      ·exact⟨_,c,hv⟩
     |ig r len sz =>
      simp[jT] at hn;subst hn;obtain⟨_,⟨_,rfl,hv⟩|⟨b,c,_,hv,_⟩⟩:=he
      ·exact⟨_,_,hv⟩
      ·exact⟨_,c,hv⟩
     |mE _ _=>simp[jT] at hn
     |ptr _ _=>simp[jT] at hn
     |mC _=>simp[jT] at hn
     |dead=>simp[jT] at hn
     |jA _ _ _ _ _=>simp[jT] at hn
     |mD _ _=>simp[jT] at hn
     |lz _=>simp[jT] at hn
     |iu _ _ _=>simp[jT] at hn
     |cM _ _ _=>simp[jT] at hn
    obtain⟨ao,c,hv⟩:=hv;have exec:(execOp a.eval ⟨dst,.call ⟨.builtin .len,#[x],#[t]⟩,ty,pos,after,guard⟩).run P w = .ok (.value (.int .i64 n)) w:=by simp[execOp,resolve,invoke,builtin,Builtin.len_,hv,run_underlying hu,goInt]
    split at aJ
    ·rename_i m;injection aJ with aJ;subst aJ
     have hm:(n:Int)=m:=cf;rw[hm] at exec;exact dw.pure (e := .pv _) exec (Rd.int _ _)
    ·rw[cF aJ];exact dw.pure (e := .pv _) exec (Rd.int _ _)
   ·rename_i hk;obtain⟨un,hu,_,hf⟩:=(hT t d hd).under;rw[hk] at hf;have hf:un = .string:=hf;subst hf;split at aJ
    ·rename_i s m;injection aJ with aJ;subst aJ
     have hv:a.eval x = .string s:=by have he:Rd I w (.str s) (a.eval x):=hp.ev x _ hx;generalize a.eval x=v at he;cases he;rfl
     have hm:(s.size:Int)=m:=cf;have exec:(execOp a.eval ⟨dst,.call ⟨.builtin .len,#[x],#[t]⟩,ty,pos,after,guard⟩).run P w = .ok (.value (.int .i64 s.size)) w:=by simp[execOp,resolve,invoke,builtin,Builtin.len_,hv,run_underlying hu,goInt]
     rw[hm] at exec;exact dw.pure (e := .pv _) exec (Rd.int _ _)
    ·cases aJ
   ·cases aJ
  ·cases aJ
 ·rename_i x y il;have mF:=yX il;subst mF;split at aJ
  ·rename_i k m k' m' O6 r hx hy;cases BY:(decide (k=k')&&decide (k=O6)) with
   |false=>simp[BY] at aJ
   |true =>
    simp only[BY,cond_true] at aJ;simp only[Bool.and_eq_true,decide_eq_true_eq] at BY;obtain⟨rfl,rfl⟩:=BY;injection aJ with aJ;subst aJ
    have BU:a.eval x = .int k m:=sL (hp.ev x _ hx);have xp:a.eval y = .int k m':=sL (hp.ev y _ hy);have cf:(if m'>m then m' else m)=r:=cf;refine dw.pure (e := .pv _) (v := .int k r) ?_ (Rd.int _ _);simp[execOp,resolve,invoke,builtin,Builtin.max_,Builtin.max2,BU,xp];exact cf
  ·cases aJ
 ·rename_i x y il;have mF:=yX il;subst mF;split at aJ
  ·rename_i k m k' m' O6 r hx hy;cases BY:(decide (k=k')&&decide (k=O6)) with
   |false=>simp[BY] at aJ
   |true =>
    simp only[BY,cond_true] at aJ;simp only[Bool.and_eq_true,decide_eq_true_eq] at BY;obtain⟨rfl,rfl⟩:=BY;injection aJ with aJ;subst aJ
    have BU:a.eval x = .int k m:=sL (hp.ev x _ hx);have xp:a.eval y = .int k m':=sL (hp.ev y _ hy);have cf:(if m'<m then m' else m)=r:=cf;refine dw.pure (e := .pv _) (v := .int k r) ?_ (Rd.int _ _);simp[execOp,resolve,invoke,builtin,Builtin.min_,Builtin.min2,BU,xp];exact cf
  ·cases aJ
 ·cases aJ
theorem EI{t:TypeId}{x i:Operand}(hT:mm P T)(hp:xZ a w β L I aP ρ)(aJ:cI T aP dst (.index t x i) ρ h=some res)(cf:dW res.ob) :
  dw P ⟨dst,.index t x i,ty,pos,after,guard⟩ a β L I w res:=by
 simp only[cI] at aJ;split at aJ
 ·rename_i d cs ik n k row hd hx hi;have Rl:a.eval i = .int ik n:=sL (hp.ev i _ hi);split at aJ
  ·rename_i len el hk;obtain⟨un,hu,_,hf⟩:=(hT t d hd).under;rw[hk] at hf;obtain⟨hf,zX,Vg⟩:=hf;subst hf;split at aJ
   ·rename_i de nL;have Pb:=hT el de nL;obtain⟨i',hi1,Cu,Rm,hi4⟩:=Pb.run_typeInfo (w:=w);have ji:P.cellsOf el=de.size:=by simp[Program.cellsOf,Cu,Rm]
    obtain⟨Yl,Ds,Vh,_⟩:=Pb.under;have Vf:xY P el=de.agg:=by unfold xY;rw[Ds];exact Vh
    have key:∀p ob,n=(k:Int)→k<len→xj cs (k*de.size) de.size de.agg=some p→dw P ⟨dst,.index t x i,ty,pos,after,guard⟩ a β L I w ⟨.pv p,none,ob⟩:=by
     intro p ob h1 h2 Ui;subst h1;have hr:Rd I w (.agg cs) (a.eval x):=hp.ev x _ hx;generalize xn:a.eval x=v at hr;cases hr with
     |agg _ us hl ho hh =>
      have hc:bO I w cs us.toList:=⟨by simpa using hl,fun j c u hj Dl=>⟨ho j c hj,hh j c u hj (by simpa using Dl)⟩⟩;rw[←ji,←Vf] at Ui;obtain⟨v,q1,q2⟩:=Eu w zX Vg hc Ui;refine dw.pure (e := .pv p) (cJ rfl ?_) q2;have cT:(0:Int)≤(k:Int)∧(k:Int)<(len:Int):=by omega
      rw[xn,Rl];unfold Instr.index;simp only[Sem.run_bind,asIntOf,Sem.run_pure,Result.andThen_ok,run_underlying hu];rw[ac7 cT];simp only[Sem.run_bind,Pb.run_sizeOf w,Result.andThen_ok,Int.toNat_natCast];rw[←ji];exact q1
    cases hg:de.agg with
    |false =>
     simp only[hg,cond_false] at aJ;split at aJ
     ·rename_i p;injection aJ with aJ;subst aJ
      obtain⟨h1,cf⟩:=cf.cons;obtain⟨h2,h3⟩:=cf.cons;have h3:cs[k*de.size]? = some p:=h3;exact key p _ h1 h2 (by unfold xj;rw[hg,ac1];exact h3)
     ·cases aJ
    |true =>
     simp only[hg,cond_true] at aJ;injection aJ with aJ;subst aJ
     obtain⟨h1,cf⟩:=cf.cons;obtain⟨h2,cf⟩:=cf.cons;obtain⟨h3,h4⟩:=cf.cons;have h4:(cs.drop (k*de.size)).take de.size=row:=h4;exact key (.agg row) _ h1 h2 (by unfold xj;rw[hg,abQ,acN h3,abQ,h4])
   ·cases aJ
  ·cases aJ
 ·rename_i d s ik n k m hd hx hi;have Rl:a.eval i = .int ik n:=sL (hp.ev i _ hi);have BU:a.eval x = .string s:=by
   have hr:Rd I w (.str s) (a.eval x):=hp.ev x _ hx;generalize a.eval x=v at hr;cases hr;rfl
  split at aJ
  ·rename_i hk;obtain⟨un,hu,_,hf⟩:=(hT t d hd).under;rw[hk] at hf;have hf:un = .string:=hf;subst hf;injection aJ with aJ;subst aJ
   obtain⟨h1,h2⟩:=cf.cons;have h2:(s.data.toList[k]?).map (fun b=>(b.toNat:Int))=some m:=h2;subst h1;cases hb:s.data.toList[k]? with
   |none=>rw[hb] at h2;cases h2
   |some b =>
    rw[hb] at h2;simp only[Option.map_some,Option.some.injEq] at h2;refine dw.pure (e := .pv _) (v := .int .u8 m) (cJ rfl ?_) (Rd.int _ _);rw[Rl,BU];have qz:s[k]? = some b:=by
     have cT:k<s.data.size:=by simpa using(abL.1 hb).1
     have Vi:k<s.size:=cT;rw[getElem?_pos s k Vi]
     congr 1
     have h3:=(abL.1 hb).2;have h4:s.data[k]=b:=by simpa using h3
     exact h4
    unfold Instr.index;simp only[Sem.run_bind,asIntOf,Sem.run_pure,Result.andThen_ok,run_underlying hu,Int.toNat_natCast];rw[ac7 (by omega),qz];simp[h2]
  ·cases aJ
 ·cases aJ
theorem sN(hp:xZ a w β L I aP ρ):∀(xs:List Operand) (qs:List Nat),q8 ρ xs=some qs→(∀q∈qs,L q)∧∃ab:List Nat,qs.map β=ab.map some∧xs.map a.eval=ab.map yJ
 |[],qs,h=>by injection h with h;subst h;exact⟨fun q hq=>(by cases hq),[],rfl,rfl⟩
 |x::r,qs,h=>by
  unfold q8 at h;split at h
  ·rename_i q RX hx hr;injection h with h;subst h
   obtain⟨h1,ab,h2,h3⟩:=sN hp r RX hr;obtain⟨hl,b,hb,hv⟩:=hp.ev x _ hx;refine⟨fun q' B2=>(ac0.1 B2).elim (fun e=>e ▸ hl) (h1 q'),b::ab,by simp[hb,h2],by simp[hv,h3,yJ]⟩
  ·cases h
theorem zY{fn:Fn}{first cap:Array Operand}(hp:xZ a w β L I aP ρ)(aJ:cI T aP dst (.makeFunc fn first cap) ρ h=some res) :
  dw P ⟨dst,.makeFunc fn first cap,ty,pos,after,guard⟩ a β L I w res:=by
 simp only[cI] at aJ;split at aJ
 ·rename_i f x h1 h2;have Vj:first = #[]:=by apply adN;simpa using h1
  have Vk:=ML h2;subst Vj;subst Vk;split at aJ
  ·rename_i r hx;rw[cF aJ];obtain⟨hl,b,hb,hv⟩:=hp.ev x _ hx;refine dw.pure (e := .mD f r) (v := .func (.func f) #[] #[.pointer (some ⟨b,0,none⟩)]) ?_ ⟨hl,b,hb,rfl⟩;simp[execOp,Instr.makeFunc,hv]
  ·cases aJ
 ·rename_i f h1 h2;have Vj:first = #[]:=by apply adN;simpa using h1
  have Vk:cap = #[]:=by apply adN;simpa using h2
  subst Vj;subst Vk;rw[cF aJ];refine dw.pure (e := .pv _) (v := .func (.func f) #[] #[]) ?_ (Rd.fn _);simp[execOp,Instr.makeFunc]
 ·rename_i f _ _;split at aJ
  ·rename_i qs rs hq hs;rw[cF aJ];obtain⟨l1,ab,e1,e2⟩:=sN hp first.toList qs hq;obtain⟨l2,ac,e3,e4⟩:=sN hp cap.toList rs hs;refine dw.pure (e := .cM f qs rs) (v := .func (.func f) (ab.map yJ).toArray (ac.map yJ).toArray) ?_ ⟨fun r hr=>(acs.1 hr).elim (l1 r) (l2 r),ab,ac,e1,e3,rfl⟩;have h1:first.map a.eval=(ab.map yJ).toArray:=by apply adN;simpa using e2
   have h2:cap.map a.eval=(ac.map yJ).toArray:=by apply adN;simpa using e4
   simp[execOp,Instr.makeFunc,h1,h2]
  ·cases aJ
 ·cases aJ
theorem x4(hT:mm P T)(hp:xZ a w β L I aP ρ){o:Oper}(aJ:cI T aP o.dst o.op ρ h=some res)(cf:dW res.ob):dw P o a β L I w res:=by
 obtain⟨dst,op,ty,pos,after,guard⟩:=o;cases op
 case move x=>exact Ge hp aJ
 case makeFunc fn f1 cap=>exact zY hp aJ
 case assign x=>exact Dr hp aJ
 case pick c x y=>exact Gf hp aJ cf
 case alloc t=>exact EA hT hp aJ
 case box t x=>exact IF hp aJ
 case build t ps=>exact EB hT hp aJ
 case buildSlice t n ps=>exact xo hT hp aJ cf
 case load t x=>exact Gg hT hp aJ cf
 case nilCheck x=>exact zU hp aJ
 case binOp op t x y yt=>exact ED hT hp aJ cf
 case unOp op t x=>exact Gh hp aJ cf
 case convert s t x=>exact B0 hT hp aJ cf
 case makeInterface t x=>exact ux hT hp aJ
 case makeSlice t x y=>exact yS hT hp aJ cf
 case slice t x lo hi mx=>exact EF hT hp aJ cf
 case fieldAddr t x f=>exact yV hT hp aJ
 case field t x f=>exact EH hT hp aJ
 case indexAddr t x i=>exact yW hT hp aJ cf
 case index t x i=>exact EI hT hp aJ cf
 case extract x i=>exact B1 hp aJ
 case typeAssert x xt t ok=>exact xq hT hp aJ
 case call c=>exact Gj hT hp aJ cf
 all_goals (exfalso;simp[cI] at aJ)
end
end Go.Proofs.YtneklnlpgfeplaaGreat.Sym
