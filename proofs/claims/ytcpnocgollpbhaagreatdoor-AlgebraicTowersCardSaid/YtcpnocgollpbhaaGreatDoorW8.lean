/- Lemmas for the statements of this seat. -/
import Derived.Test.YtcpnocgollpbhaaGreatDoorW7
namespace Go.Proofs.YtcpnocgollpbhaaGreatDoor.Sym
open Go Go.RowKit
section
variable {P:Program} {T:lh} {a:Act} {w:World} {β:Nat→Option Nat} {L I:Nat→Prop} {aK:aT} {ρ:Operand→Option EV} {h:Hint} {res:oP}
variable {dst:Option Tmp} {ty:TypeId} {pos:String} {after:Array Edge} {guard:Option (Nat×Bool)}
theorem sO{t:TypeId}{d:TD}{fs:List (Nat×Nat×Bool)}{f off size:Nat}{agg:Bool}(hd:qD P t d)(hk:d.kind = .struct fs)(hf:fs[f]? = some (off,size,agg)) :
  ∃ff fl,P.underlying t=some (.struct ff)∧ff[f]? = some fl∧fl.offset=off∧P.cellsOf fl.type=size∧xM P fl.type=agg∧(P.info? fl.type).isSome=true∧(P.underlying fl.type).isSome=true:=by
 obtain⟨u,hu,_,Lt⟩:=hd.under;rw[hk] at Lt;obtain⟨ff,rfl,h1,h2⟩:=Lt;rw[←h1,afu] at hf;cases hx:ff.toList[f]? with
 |none=>rw[hx] at hf;cases hf
 |some fl =>
  rw[hx] at hf;simp only[Option.map_some,Option.some.injEq,Prod.mk.injEq] at hf;have hm:fl∈ff:=by simpa using afx hx
  exact⟨ff,fl,hu,by simpa using hx,hf.1,hf.2.1,hf.2.2,h2 fl hm⟩
theorem Bt{t:TypeId}{x:Operand}{f:Nat}(hT:oE P T)(hp:Bq a w β L I aK ρ)(aw:cw T aK dst (.fieldAddr t x f) ρ h=some res) :
  dy P ⟨dst,.fieldAddr t x f,ty,pos,after,guard⟩ a β L I w res:=by
 simp only[cw] at aw;split at aw
 ·rename_i d e hd hx;split at aw
  ·rename_i fs hk;split at aw
   ·rename_i off size agg hf;obtain⟨ff,fl,hu,HH,OG,mg,_,xU,_⟩:=sO (hT t d hd) hk hf;cases hs:Nat.ble 1 size with
    |false=>simp[hs] at aw
    |true =>
     simp only[hs,cond_true] at aw;have OD:1≤size:=afv hs;have exec:∀b o,a.eval x = .pointer (some ⟨b,o,none⟩)→(Instr.fieldAt t (a.eval x) f).run P w = .ok (.pointer (some ⟨b,o+off,none⟩)) w:=by
      intro b o hv;obtain⟨i,hi⟩:=afS.1 xU;have xV:(sizeOf fl.type).run P w = .ok (P.cellsOf fl.type) w:=by simp[sizeOf,typeInfo,hi,Program.cellsOf]
      rw[hv];unfold Instr.fieldAt;simp only[Sem.run_bind,run_underlying hu,Result.andThen_ok,HH,Instr.sureAddr,Sem.run_pure,fieldPlace,xV];rw[afG (by omega)];simp only[Sem.run_pure,Result.andThen_ok,gU,OG]
     split at aw
     ·rename_i r o;rw[cH aw];obtain⟨hL,b,hb,hv⟩:=hp.ev x _ hx;exact dy.pure (e := .ptr _ _) (cF rfl (exec _ _ hv)) ⟨hL,b,hb,rfl⟩
     ·rename_i cs;rw[cH aw];obtain⟨b,o,hv,hb,hc⟩:=hp.ev x _ hx;refine dy.pure (e := .oY _) (cF rfl (exec _ _ hv)) ⟨b,o+off,rfl,hb,fun j y hy => ?_⟩;rw[agn] at hy;have:=hc _ y hy;rw[aiQ];exact this
     ·rename_i r o;rw[cH aw];obtain⟨hL,b,hb,hv⟩:=hp.ev x _ hx;exact dy.pure (e := .oD _ _) (cF rfl (exec _ _ hv)) ⟨hL,b,hb,rfl⟩
     ·cases aw
   ·cases aw
  ·cases aw
 ·cases aw
theorem H9{t:TypeId}{x:Operand}{f:Nat}(hT:oE P T)(hp:Bq a w β L I aK ρ)(aw:cw T aK dst (.field t x f) ρ h=some res) :
  dy P ⟨dst,.field t x f,ty,pos,after,guard⟩ a β L I w res:=by
 simp only[cw] at aw;split at aw
 ·rename_i d cs hd hx;split at aw
  ·rename_i fs hk;split at aw
   ·rename_i off size agg hf;split at aw
    ·rename_i p Wx;rw[cH aw];obtain⟨ff,fl,hu,HH,OG,mg,Zj,xU,Zk⟩:=sO (hT t d hd) hk hf;have hr:Rd I w (.agg cs) (a.eval x):=hp.ev x _ hx;generalize tT:a.eval x=v at hr;cases hr with
     |agg _ us hl ho hh =>have hc:bM I w cs us.toList:=⟨by simpa using hl,fun j c u hj J1=>⟨ho j c hj,hh j c u hj (by simpa using J1)⟩⟩;subst OG;subst mg;subst Zj;obtain⟨v,h1,h2⟩:=HU w xU Zk hc Wx;refine dy.pure (e := .pv p) (cF rfl ?_) h2;rw[tT];unfold Instr.field;simp only[Sem.run_bind,run_underlying hu,Result.andThen_ok,HH,asAgg,Sem.run_pure];exact h1
    ·cases aw
   ·cases aw
  ·cases aw
 ·cases aw
theorem Bu{t:TypeId}{x i:Operand}(hT:oE P T)(hp:Bq a w β L I aK ρ)(aw:cw T aK dst (.indexAddr t x i) ρ h=some res)(cv:dX res.ob) :
  dy P ⟨dst,.indexAddr t x i,ty,pos,after,guard⟩ a β L I w res:=by
 simp only[cw] at aw;split at aw
 ·rename_i d e ik n hd hx hi;have Wy:a.eval i = .int ik n:=ud (hp.ev i _ hi);split at aw
  ·rename_i el hk;obtain⟨un,hu,_,hf⟩:=(hT t d hd).under;rw[hk] at hf;have hf:un = .slice el:=hf;subst hf;split at aw
   ·rename_i de pE;have exec:∀(b o len c k:Nat),a.eval x = .slice (some ⟨b,o,none⟩) len c→n=(k:Int)→k<len→(Instr.indexAt t (a.eval x) (a.eval i)).run P w = .ok (.pointer (some ⟨b,o+k*de.size,none⟩)) w:=by
     intro b o len c k hv hn hk;subst hn;have xU:(0:Int)≤(k:Int)∧(k:Int)<(len:Int):=by omega
     rw[hv,Wy];unfold Instr.indexAt;simp only[Sem.run_bind,asIntOf,Sem.run_pure,Result.andThen_ok,run_underlying hu];have abL:(if len≤1 then false else false:Bool)=false:=by split<;>rfl
     simp only[xU,and_self,if_true,Sem.run_bind,(hT el de pE).run_sizeOf w,Result.andThen_ok,Sem.run_pure,Int.toNat_natCast,gU]
    split at aw
    ·rename_i r off len sz k;cases mg:Nat.beq sz de.size with
     |false=>simp[mg] at aw
     |true =>
      simp only[mg,cond_true] at aw;have Ge:sz=de.size:=afB mg;injection aw with aw;subst aw
      obtain⟨h1,h2⟩:=cv.cons;have h2:k<len:=h2;obtain⟨hL,⟨_,H8,_⟩|⟨b,c,hb,hv,_⟩⟩:=hp.ev x _ hx
      ·omega
      ·exact dy.pure (e := .ptr _ _) (cF rfl (exec _ _ _ _ k hv h1 h2)) ⟨hL,b,hb,by rw[Ge]⟩
    ·rename_i jj len sz k;cases mg:Nat.beq sz de.size with
     |false=>simp[mg] at aw
     |true =>
      simp only[mg,cond_true] at aw;have Ge:sz=de.size:=afB mg;injection aw with aw;subst aw
      obtain⟨h1,h2⟩:=cv.cons;have h2:k<len:=h2;obtain⟨hL,⟨_,H8,_⟩|⟨b,c,hb,hv,_⟩⟩:=hp.ev x _ hx
      ·omega
      ·exact dy.pure (e := .oD _ _) (cF rfl (exec _ _ _ _ k hv h1 h2)) ⟨hL,b,hb,by rw[Ge,agl]⟩
    ·rename_i xs k row;injection aw with aw;subst aw
     obtain⟨h1,cv⟩:=cv.cons;obtain⟨h2,h3⟩:=cv.cons;have h3:row.length=de.size:=h3;have hr:Rd I w (.list xs) (a.eval x):=hp.ev x _ hx;have dI:k<xs.length:=(afs.1 h2).1;generalize tT:a.eval x=v at hr;cases hr with
     |nil=>simp at dI
     |list _ b o c s f hc hb hs ho hh =>
      have WT:s=de.size:=by rw[←hs k row h2,h3]
      subst WT;refine dy.pure (e := .oY _) (cF rfl (exec b o _ c k tT h1 dI)) ⟨b,_,rfl,hb,fun j y hy => ?_⟩;have g:=ho k j row y h2 hy;refine⟨g.1,f k j,?_,hh k j row y h2 hy⟩;rw[aiQ];exact g.2
    ·cases aw
   ·cases aw
  ·rename_i len el hk;obtain⟨un,hu,_,hf⟩:=(hT t d hd).under;rw[hk] at hf;obtain⟨hf,_,_⟩:=hf;subst hf;split at aw
   ·rename_i de pE;split at aw
    ·rename_i r off k;injection aw with aw;subst aw
     obtain⟨h1,h2⟩:=cv.cons;have h2:k<len:=h2;obtain⟨hL,b,hb,hv⟩:=hp.ev x _ hx;refine dy.pure (e := .ptr _ _) (v := .pointer (some ⟨b,off+k*de.size,none⟩)) (cF rfl ?_) ⟨hL,b,hb,rfl⟩;subst h1;have xU:(0:Int)≤(k:Int)∧(k:Int)<(len:Int):=by omega
     rw[hv,Wy];unfold Instr.indexAt;simp only[Sem.run_bind,asIntOf,Sem.run_pure,Result.andThen_ok,run_underlying hu,Instr.sureAddr];simp only[xU,and_self,if_true,Sem.run_bind,(hT el de pE).run_sizeOf w,Result.andThen_ok,Sem.run_pure,Int.toNat_natCast,gU]
    ·cases aw
   ·cases aw
  ·cases aw
 ·cases aw
theorem Ez{x:Operand}{i:Nat}(hp:Bq a w β L I aK ρ)(aw:cw T aK dst (.extract x i) ρ h=some res) :
  dy P ⟨dst,.extract x i,ty,pos,after,guard⟩ a β L I w res:=by
 simp only[cw] at aw;split at aw
 ·rename_i vs hx;split at aw
  ·rename_i p hpi;rw[cH aw];have hr:Rd I w (.aF vs) (a.eval x):=hp.ev x _ hx;generalize tT:a.eval x=v at hr;cases hr with
   |aF _ us hl hh =>
    have hi:i<us.size:=by rw[←hl];exact(afs.1 hpi).1
    have hu:us[i]? = some us[i]:=agH hi;refine dy.pure (e := .pv p) (cF rfl ?_) (hh i p _ hpi hu);rw[tT];simp[Instr.extract,hu]
  ·cases aw
 ·rename_i r off len sz ps hx;obtain⟨us,tT,mg,⟨u,RH,E2⟩,hh⟩:=hp.ev x _ hx;cases i with
  |zero =>rw[cH aw];exact dy.pure (e := .row r off len sz) (cF rfl (by rw[tT];simp[Instr.extract,RH])) E2
  |succ j =>
   simp only at aw;split at aw
   ·rename_i p hpj;rw[cH aw];have hi:j+1<us.size:=by have:=(afs.1 hpj).1;omega
    have hu:us[j+1]? = some us[j+1]:=agH hi;exact dy.pure (e := .pv p) (cF rfl (by rw[tT];simp[Instr.extract,hu])) (hh j p _ hpj hu)
   ·cases aw
 ·cases aw
theorem zG{x:Operand}{xt t:TypeId}{ok:Bool}(hT:oE P T)(hp:Bq a w β L I aK ρ)(aw:cw T aK dst (.typeAssert x xt t ok) ρ h=some res) :
  dy P ⟨dst,.typeAssert x xt t ok,ty,pos,after,guard⟩ a β L I w res:=by
 cases ok with
 |false=>simp[cw] at aw
 |true =>
  simp only[cw] at aw;split at aw
  ·rename_i d u p hd hx;split at aw
   ·rename_i k hk;cases hb:Nat.beq u t with
    |false=>simp[hb] at aw
    |true =>
     simp only[hb,cond_true] at aw;have hut:u=t:=afB hb;subst hut;rw[cH aw];obtain⟨un,hu,_,hf⟩:=(hT u d hd).under;rw[hk] at hf;have hf:un = .int k:=hf;subst hf;have hr:Rd I w (.iface u p) (a.eval x):=hp.ev x _ hx;generalize tT:a.eval x=v at hr;cases hr with
     |iface _ _ v hv =>
      refine dy.pure (e := .pv _) (v := .tuple #[v,.bool true]) (cF rfl ?_) (Rd.aF _ _ rfl (fun j c y hc hy => ?_))
      ·rw[tT];simp[Instr.typeAssert,run_underlying hu]
      ·match j,hc,hy with
       |0,hc,hy=>simp at hc hy;subst hc hy;exact hv
       |1,hc,hy=>simp at hc hy;subst hc hy;exact .bool _
       |j+2,hc,hy=>simp at hc
   ·cases aw
  ·cases aw
theorem RI{α:Type}{xs:Array α}{x:α}(h:xs.toList=[x]):xs = #[x]:=by apply ais;simpa using h
theorem Bv{α:Type}{xs:Array α}{x y:α}(h:xs.toList=[x,y]):xs = #[x,y]:=by apply ais;simpa using h
theorem Kb{c:Call}(hT:oE P T)(hp:Bq a w β L I aK ρ)(aw:cw T aK dst (.call c) ρ h=some res)(cv:dX res.ob) :
  dy P ⟨dst,.call c,ty,pos,after,guard⟩ a β L I w res:=by
 obtain⟨cl,args,OH⟩:=c;simp only[cw] at aw;split at aw
 ·rename_i x t kO Kc;have nD:=RI kO;have xW:=RI Kc;subst nD;subst xW;split at aw
  ·rename_i d e hd hx;split at aw
   ·rename_i el n hk hn;obtain⟨un,hu,_,hf⟩:=(hT t d hd).under;rw[hk] at hf;have hf:un = .slice el:=hf;subst hf;have hv:∃ao c,a.eval x = .slice ao n c:=by
     have he:=hp.ev x e hx;cases e with
     |pv p =>
      cases p<;>simp[mo] at hn;subst hn;generalize a.eval x=v at he;cases he with
      |nil ao c=>exact⟨ao,c,rfl⟩
      |list _ b o c s f=>exact⟨_,c,rfl⟩
     |row r off len sz =>
      simp[mo] at hn;subst hn;obtain⟨_,⟨_,rfl,hv⟩|⟨b,c,_,hv,_⟩⟩:=he
      ·exact⟨_,_,hv⟩
      ·exact⟨_,c,hv⟩
     |jB r len sz =>
      simp[mo] at hn;subst hn;obtain⟨_,⟨_,rfl,hv⟩|⟨b,c,_,hv,_⟩⟩:=he
      ·exact⟨_,_,hv⟩
      ·exact⟨_,c,hv⟩
     |oD _ _=>simp[mo] at hn
     |ptr _ _=>simp[mo] at hn
     |oY _=>simp[mo] at hn
     |dead=>simp[mo] at hn
     |oZ _ _ _ _ _=>simp[mo] at hn
     |BI _ _=>simp[mo] at hn
     |nC _=>simp[mo] at hn
    obtain⟨ao,c,hv⟩:=hv;have exec:(execOp a.eval ⟨dst,.call ⟨.builtin .len,#[x],#[t]⟩,ty,pos,after,guard⟩).run P w = .ok (.value (.int .i64 n)) w:=by simp[execOp,resolve,invoke,builtin,Builtin.len_,hv,run_underlying hu,goInt]
    split at aw
    ·rename_i m;injection aw with aw;subst aw
     have hm:(n:Int)=m:=cv;rw[hm] at exec;exact dy.pure (e := .pv _) exec (Rd.int _ _)
    ·rw[cH aw];exact dy.pure (e := .pv _) exec (Rd.int _ _)
   ·rename_i hk;obtain⟨un,hu,_,hf⟩:=(hT t d hd).under;rw[hk] at hf;have hf:un = .string:=hf;subst hf;split at aw
    ·rename_i s m;injection aw with aw;subst aw
     have hv:a.eval x = .string s:=by have he:Rd I w (.str s) (a.eval x):=hp.ev x _ hx;generalize a.eval x=v at he;cases he;rfl
     have hm:(s.size:Int)=m:=cv;have exec:(execOp a.eval ⟨dst,.call ⟨.builtin .len,#[x],#[t]⟩,ty,pos,after,guard⟩).run P w = .ok (.value (.int .i64 s.size)) w:=by simp[execOp,resolve,invoke,builtin,Builtin.len_,hv,run_underlying hu,goInt]
     rw[hm] at exec;exact dy.pure (e := .pv _) exec (Rd.int _ _)
    ·cases aw
   ·cases aw
  ·cases aw
 ·rename_i x y kO;have nD:=Bv kO;subst nD;split at aw
  ·rename_i k m k' m' Uk r hx hy;cases Ev:(decide (k=k')&&decide (k=Uk)) with
   |false=>simp[Ev] at aw
   |true =>
    simp only[Ev,cond_true] at aw;simp only[Bool.and_eq_true,decide_eq_true_eq] at Ev;obtain⟨rfl,rfl⟩:=Ev;injection aw with aw;subst aw
    have Em:a.eval x = .int k m:=ud (hp.ev x _ hx);have zE:a.eval y = .int k m':=ud (hp.ev y _ hy);have cv:(if m'>m then m' else m)=r:=cv;refine dy.pure (e := .pv _) (v := .int k r) ?_ (Rd.int _ _);simp[execOp,resolve,invoke,builtin,Builtin.max_,Builtin.max2,Em,zE];exact cv
  ·cases aw
 ·rename_i x y kO;have nD:=Bv kO;subst nD;split at aw
  ·rename_i k m k' m' Uk r hx hy;cases Ev:(decide (k=k')&&decide (k=Uk)) with
   |false=>simp[Ev] at aw
   |true =>
    simp only[Ev,cond_true] at aw;simp only[Bool.and_eq_true,decide_eq_true_eq] at Ev;obtain⟨rfl,rfl⟩:=Ev;injection aw with aw;subst aw
    have Em:a.eval x = .int k m:=ud (hp.ev x _ hx);have zE:a.eval y = .int k m':=ud (hp.ev y _ hy);have cv:(if m'<m then m' else m)=r:=cv;refine dy.pure (e := .pv _) (v := .int k r) ?_ (Rd.int _ _);simp[execOp,resolve,invoke,builtin,Builtin.min_,Builtin.min2,Em,zE];exact cv
  ·cases aw
 ·cases aw
theorem Ia{t:TypeId}{x i:Operand}(hT:oE P T)(hp:Bq a w β L I aK ρ)(aw:cw T aK dst (.index t x i) ρ h=some res)(cv:dX res.ob) :
  dy P ⟨dst,.index t x i,ty,pos,after,guard⟩ a β L I w res:=by
 simp only[cw] at aw;split at aw
 ·rename_i d cs ik n k row hd hx hi;have Wy:a.eval i = .int ik n:=ud (hp.ev i _ hi);split at aw
  ·rename_i len el hk;obtain⟨un,hu,_,hf⟩:=(hT t d hd).under;rw[hk] at hf;obtain⟨hf,xU,Zk⟩:=hf;subst hf;split at aw
   ·rename_i de pE;cases hg:de.agg with
    |false=>simp[hg] at aw
    |true =>
     simp only[hg,cond_true] at aw;injection aw with aw;subst aw
     obtain⟨h1,cv⟩:=cv.cons;obtain⟨h2,cv⟩:=cv.cons;obtain⟨h3,h4⟩:=cv.cons;have h4:(cs.drop (k*de.size)).take de.size=row:=h4;subst h1;have hr:Rd I w (.agg cs) (a.eval x):=hp.ev x _ hx;generalize tT:a.eval x=v at hr;cases hr with
     |agg _ us hl ho hh =>
      have hc:bM I w cs us.toList:=⟨by simpa using hl,fun j c u hj J1=>⟨ho j c hj,hh j c u hj (by simpa using J1)⟩⟩;have Uq:=hT el de pE;obtain⟨i,hi1,E4,Wz,hi4⟩:=Uq.run_typeInfo (w:=w);have mg:P.cellsOf el=de.size:=by simp[Program.cellsOf,E4,Wz]
      obtain⟨Zl,H3,Zm,_⟩:=Uq.under;have Zj:xM P el=true:=by unfold xM;rw[H3];show ua Zl=true;exact Zm.trans hg
      have Wx:Cl cs (k*de.size) (P.cellsOf el) (xM P el)=some (.agg row):=by unfold Cl;rw[Zj,afz,mg,agR h3,afz,h4]
      obtain⟨v,q1,q2⟩:=HU w xU Zk hc Wx;refine dy.pure (e := .pv (.agg row)) (cF rfl ?_) q2;have dI:(0:Int)≤(k:Int)∧(k:Int)<(len:Int):=by omega
      rw[tT,Wy];unfold Instr.index;simp only[Sem.run_bind,asIntOf,Sem.run_pure,Result.andThen_ok,run_underlying hu];rw[afI dI];simp only[Sem.run_bind,Uq.run_sizeOf w,Result.andThen_ok,Int.toNat_natCast];exact q1
   ·cases aw
  ·cases aw
 ·rename_i d s ik n k m hd hx hi;have Wy:a.eval i = .int ik n:=ud (hp.ev i _ hi);have Em:a.eval x = .string s:=by
   have hr:Rd I w (.str s) (a.eval x):=hp.ev x _ hx;generalize a.eval x=v at hr;cases hr;rfl
  split at aw
  ·rename_i hk;obtain⟨un,hu,_,hf⟩:=(hT t d hd).under;rw[hk] at hf;have hf:un = .string:=hf;subst hf;injection aw with aw;subst aw
   obtain⟨h1,h2⟩:=cv.cons;have h2:(s.data.toList[k]?).map (fun b=>(b.toNat:Int))=some m:=h2;subst h1;cases hb:s.data.toList[k]? with
   |none=>rw[hb] at h2;cases h2
   |some b =>
    rw[hb] at h2;simp only[Option.map_some,Option.some.injEq] at h2;refine dy.pure (e := .pv _) (v := .int .u8 m) (cF rfl ?_) (Rd.int _ _);rw[Wy,Em];have mr:s[k]? = some b:=by
     have dI:k<s.data.size:=by simpa using(afs.1 hb).1
     have Zn:k<s.size:=dI;rw[getElem?_pos s k Zn]
     congr 1
     have h3:=(afs.1 hb).2;have h4:s.data[k]=b:=by simpa using h3
     exact h4
    unfold Instr.index;simp only[Sem.run_bind,asIntOf,Sem.run_pure,Result.andThen_ok,run_underlying hu,Int.toNat_natCast];rw[afI (by omega),mr];simp[h2]
  ·cases aw
 ·cases aw
theorem Cy{fn:Fn}{first cap:Array Operand}(hp:Bq a w β L I aK ρ)(aw:cw T aK dst (.makeFunc fn first cap) ρ h=some res) :
  dy P ⟨dst,.makeFunc fn first cap,ty,pos,after,guard⟩ a β L I w res:=by
 simp only[cw] at aw;split at aw
 ·rename_i f x h1 h2;have tI:first = #[]:=by apply ais;simpa using h1
  have YF:=RI h2;subst tI;subst YF;split at aw
  ·rename_i r hx;rw[cH aw];obtain⟨hl,b,hb,hv⟩:=hp.ev x _ hx;refine dy.pure (e := .BI f r) (v := .func (.func f) #[] #[.pointer (some ⟨b,0,none⟩)]) ?_ ⟨hl,b,hb,rfl⟩;simp[execOp,Instr.makeFunc,hv]
  ·cases aw
 ·rename_i f h1 h2;have tI:first = #[]:=by apply ais;simpa using h1
  have YF:cap = #[]:=by apply ais;simpa using h2
  subst tI;subst YF;rw[cH aw];refine dy.pure (e := .pv _) (v := .func (.func f) #[] #[]) ?_ (Rd.fn _);simp[execOp,Instr.makeFunc]
 ·cases aw
theorem AG(hT:oE P T)(hp:Bq a w β L I aK ρ){o:Oper}(aw:cw T aK o.dst o.op ρ h=some res)(cv:dX res.ob):dy P o a β L I w res:=by
 obtain⟨dst,op,ty,pos,after,guard⟩:=o;cases op
 case move x=>exact J6 hp aw
 case makeFunc fn f1 cap=>exact Cy hp aw
 case assign x=>exact Gd hp aw
 case pick c x y=>exact J7 hp aw cv
 case alloc t=>exact HZ hT hp aw
 case box t x=>exact M7 hp aw
 case build t ps=>exact H0 hT hp aw
 case buildSlice t n ps=>exact zD hT hp aw cv
 case load t x=>exact J8 hT hp aw cv
 case nilCheck x=>exact Cx hp aw
 case binOp op t x y yt=>exact H4 hT hp aw cv
 case unOp op t x=>exact J9 hp aw cv
 case convert s t x=>exact Ey hT hp aw cv
 case makeInterface t x=>exact vZ hT hp aw
 case makeSlice t x y=>exact Bs hT hp aw cv
 case slice t x lo hi mx=>exact H7 hT hp aw cv
 case fieldAddr t x f=>exact Bt hT hp aw
 case field t x f=>exact H9 hT hp aw
 case indexAddr t x i=>exact Bu hT hp aw cv
 case index t x i=>exact Ia hT hp aw cv
 case extract x i=>exact Ez hp aw
 case typeAssert x xt t ok=>exact zG hT hp aw
 case call c=>exact Kb hT hp aw cv
 all_goals (exfalso;simp[cw] at aw)
end
end Go.Proofs.YtcpnocgollpbhaaGreatDoor.Sym
