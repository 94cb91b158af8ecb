/- Lemmas for the statements of this seat. -/
import Derived.Test.YtcpnocgollpbhaaGreatDoorW7
namespace Go.Proofs.YtcpnocgollpbhaaGreatDoor.Sym
open Go Go.RowKit
section
variable {P:Program} {T:kL} {a:Act} {w:World} {β:Nat→Option Nat} {L I:Nat→Prop} {aG:aS} {ρ:Operand→Option EV} {h:Hint} {res:oq}
variable {dst:Option Tmp} {ty:TypeId} {pos:String} {after:Array Edge} {guard:Option (Nat×Bool)}
theorem rW{t:TypeId}{d:TD}{fs:List (Nat×Nat×Bool)}{f off size:Nat}{agg:Bool}(hd:pJ P t d)(hk:d.kind = .struct fs)(hf:fs[f]? = some (off,size,agg)) :
  ∃ff fl,P.underlying t=some (.struct ff)∧ff[f]? = some fl∧fl.offset=off∧P.cellsOf fl.type=size∧wN P fl.type=agg∧(P.info? fl.type).isSome=true∧(P.underlying fl.type).isSome=true:=by
 obtain⟨u,hu,_,Nt⟩:=hd.under;rw[hk] at Nt;obtain⟨ff,rfl,h1,h2⟩:=Nt;rw[←h1,afT] at hf;cases hx:ff.toList[f]? with
 |none=>rw[hx] at hf;cases hf
 |some fl =>
  rw[hx] at hf;simp only[Option.map_some,Option.some.injEq,Prod.mk.injEq] at hf;have hm:fl∈ff:=by simpa using ag4 hx
  exact⟨ff,fl,hu,by simpa using hx,hf.1,hf.2.1,hf.2.2,h2 fl hm⟩
theorem Ai{t:TypeId}{x:Operand}{f:Nat}(hT:n8 P T)(hp:Af a w β L I aG ρ)(ar:bW T aG dst (.fieldAddr t x f) ρ h=some res) :
  dc P ⟨dst,.fieldAddr t x f,ty,pos,after,guard⟩ a β L I w res:=by
 simp only[bW] at ar;split at ar
 ·rename_i d e hd hx;split at ar
  ·rename_i fs hk;split at ar
   ·rename_i off size agg hf;obtain⟨ff,fl,hu,Hr,N3,lT,_,wL,_⟩:=rW (hT t d hd) hk hf;cases hs:Nat.ble 1 size with
    |false=>simp[hs] at ar
    |true =>
     simp only[hs,cond_true] at ar;have NY:1≤size:=afS hs;have exec:∀b o,a.eval x = .pointer (some ⟨b,o,none⟩)→(Instr.fieldAt t (a.eval x) f).run P w = .ok (.pointer (some ⟨b,o+off,none⟩)) w:=by
      intro b o hv;obtain⟨i,hi⟩:=agk.1 wL;have wV:(sizeOf fl.type).run P w = .ok (P.cellsOf fl.type) w:=by simp[sizeOf,typeInfo,hi,Program.cellsOf]
      rw[hv];unfold Instr.fieldAt;simp only[Sem.run_bind,run_underlying hu,Result.andThen_ok,Hr,Instr.sureAddr,Sem.run_pure,fieldPlace,wV];rw[ag7 (by omega)];simp only[Sem.run_pure,Result.andThen_ok,gD,N3]
     split at ar
     ·rename_i r o;rw[cz ar];obtain⟨hL,b,hb,hv⟩:=hp.ev x _ hx;exact dc.pure (e := .ptr _ _) (cv rfl (exec _ _ hv)) ⟨hL,b,hb,rfl⟩
     ·rename_i cs;rw[cz ar];obtain⟨b,o,hv,hb,hc⟩:=hp.ev x _ hx;refine dc.pure (e := .ox _) (cv rfl (exec _ _ hv)) ⟨b,o+off,rfl,hb,fun j y hy => ?_⟩;rw[agS] at hy;have:=hc _ y hy;rw[ajf];exact this
     ·rename_i r o;rw[cz ar];obtain⟨hL,b,hb,hv⟩:=hp.ev x _ hx;exact dc.pure (e := .n7 _ _) (cv rfl (exec _ _ hv)) ⟨hL,b,hb,rfl⟩
     ·cases ar
   ·cases ar
  ·cases ar
 ·cases ar
theorem Hs{t:TypeId}{x:Operand}{f:Nat}(hT:n8 P T)(hp:Af a w β L I aG ρ)(ar:bW T aG dst (.field t x f) ρ h=some res) :
  dc P ⟨dst,.field t x f,ty,pos,after,guard⟩ a β L I w res:=by
 simp only[bW] at ar;split at ar
 ·rename_i d cs hd hx;split at ar
  ·rename_i fs hk;split at ar
   ·rename_i off size agg hf;split at ar
    ·rename_i p V8;rw[cz ar];obtain⟨ff,fl,hu,Hr,N3,lT,Zf,wL,Zg⟩:=rW (hT t d hd) hk hf;have hr:Rd I w (.agg cs) (a.eval x):=hp.ev x _ hx;generalize u7:a.eval x=v at hr;cases hr with
     |agg _ us hl ho hh =>have hc:bE I w cs us.toList:=⟨by simpa using hl,fun j c u hj Jj=>⟨ho j c hj,hh j c u hj (by simpa using Jj)⟩⟩;subst N3;subst lT;subst Zf;obtain⟨v,h1,h2⟩:=Hc w wL Zg hc V8;refine dc.pure (e := .pv p) (cv rfl ?_) h2;rw[u7];unfold Instr.field;simp only[Sem.run_bind,run_underlying hu,Result.andThen_ok,Hr,asAgg,Sem.run_pure];exact h1
    ·cases ar
   ·cases ar
  ·cases ar
 ·cases ar
theorem Aj{t:TypeId}{x i:Operand}(hT:n8 P T)(hp:Af a w β L I aG ρ)(ar:bW T aG dst (.indexAddr t x i) ρ h=some res)(bT:dK res.ob) :
  dc P ⟨dst,.indexAddr t x i,ty,pos,after,guard⟩ a β L I w res:=by
 simp only[bW] at ar;split at ar
 ·rename_i d e ik n hd hx hi;have V9:a.eval i = .int ik n:=tm (hp.ev i _ hi);split at ar
  ·rename_i el hk;obtain⟨un,hu,_,hf⟩:=(hT t d hd).under;rw[hk] at hf;have hf:un = .slice el:=hf;subst hf;split at ar
   ·rename_i de oW;have exec:∀(b o len c k:Nat),a.eval x = .slice (some ⟨b,o,none⟩) len c→n=(k:Int)→k<len→(Instr.indexAt t (a.eval x) (a.eval i)).run P w = .ok (.pointer (some ⟨b,o+k*de.size,none⟩)) w:=by
     intro b o len c k hv hn hk;subst hn;have wL:(0:Int)≤(k:Int)∧(k:Int)<(len:Int):=by omega
     rw[hv,V9];unfold Instr.indexAt;simp only[Sem.run_bind,asIntOf,Sem.run_pure,Result.andThen_ok,run_underlying hu];have abH:(if len≤1 then false else false:Bool)=false:=by split<;>rfl
     simp only[wL,and_self,if_true,Sem.run_bind,(hT el de oW).run_sizeOf w,Result.andThen_ok,Sem.run_pure,Int.toNat_natCast,gD]
    split at ar
    ·rename_i r off len sz k;cases lT:Nat.beq sz de.size with
     |false=>simp[lT] at ar
     |true =>
      simp only[lT,cond_true] at ar;have Fj:sz=de.size:=ag0 lT;injection ar with ar;subst ar
      obtain⟨h1,h2⟩:=bT.cons;have h2:k<len:=h2;obtain⟨hL,⟨_,Hp,_⟩|⟨b,c,hb,hv,_⟩⟩:=hp.ev x _ hx
      ·omega
      ·exact dc.pure (e := .ptr _ _) (cv rfl (exec _ _ _ _ k hv h1 h2)) ⟨hL,b,hb,by rw[Fj]⟩
    ·rename_i jj len sz k;cases lT:Nat.beq sz de.size with
     |false=>simp[lT] at ar
     |true =>
      simp only[lT,cond_true] at ar;have Fj:sz=de.size:=ag0 lT;injection ar with ar;subst ar
      obtain⟨h1,h2⟩:=bT.cons;have h2:k<len:=h2;obtain⟨hL,⟨_,Hp,_⟩|⟨b,c,hb,hv,_⟩⟩:=hp.ev x _ hx
      ·omega
      ·exact dc.pure (e := .n7 _ _) (cv rfl (exec _ _ _ _ k hv h1 h2)) ⟨hL,b,hb,by rw[Fj,agQ]⟩
    ·rename_i xs k row;injection ar with ar;subst ar
     obtain⟨h1,bT⟩:=bT.cons;obtain⟨h2,h3⟩:=bT.cons;have h3:row.length=de.size:=h3;have hr:Rd I w (.list xs) (a.eval x):=hp.ev x _ hx;have bH:k<xs.length:=(afQ.1 h2).1;generalize u7:a.eval x=v at hr;cases hr with
     |nil=>simp at bH
     |list _ b o c s f hc hb hs ho hh =>
      have Wv:s=de.size:=by rw[←hs k row h2,h3]
      subst Wv;refine dc.pure (e := .ox _) (cv rfl (exec b o _ c k u7 h1 bH)) ⟨b,_,rfl,hb,fun j y hy => ?_⟩;have g:=ho k j row y h2 hy;refine⟨g.1,f k j,?_,hh k j row y h2 hy⟩;rw[ajf];exact g.2
    ·cases ar
   ·cases ar
  ·rename_i len el hk;obtain⟨un,hu,_,hf⟩:=(hT t d hd).under;rw[hk] at hf;obtain⟨hf,_,_⟩:=hf;subst hf;split at ar
   ·rename_i de oW;split at ar
    ·rename_i r off k;injection ar with ar;subst ar
     obtain⟨h1,h2⟩:=bT.cons;have h2:k<len:=h2;obtain⟨hL,b,hb,hv⟩:=hp.ev x _ hx;refine dc.pure (e := .ptr _ _) (v := .pointer (some ⟨b,off+k*de.size,none⟩)) (cv rfl ?_) ⟨hL,b,hb,rfl⟩;subst h1;have wL:(0:Int)≤(k:Int)∧(k:Int)<(len:Int):=by omega
     rw[hv,V9];unfold Instr.indexAt;simp only[Sem.run_bind,asIntOf,Sem.run_pure,Result.andThen_ok,run_underlying hu,Instr.sureAddr];simp only[wL,and_self,if_true,Sem.run_bind,(hT el de oW).run_sizeOf w,Result.andThen_ok,Sem.run_pure,Int.toNat_natCast,gD]
    ·cases ar
   ·cases ar
  ·cases ar
 ·cases ar
theorem DA{x:Operand}{i:Nat}(hp:Af a w β L I aG ρ)(ar:bW T aG dst (.extract x i) ρ h=some res) :
  dc P ⟨dst,.extract x i,ty,pos,after,guard⟩ a β L I w res:=by
 simp only[bW] at ar;split at ar
 ·rename_i vs hx;split at ar
  ·rename_i p hpi;rw[cz ar];have hr:Rd I w (.aF vs) (a.eval x):=hp.ev x _ hx;generalize u7:a.eval x=v at hr;cases hr with
   |aF _ us hl hh =>
    have hi:i<us.size:=by rw[←hl];exact(afQ.1 hpi).1
    have hu:us[i]? = some us[i]:=ah2 hi;refine dc.pure (e := .pv p) (cv rfl ?_) (hh i p _ hpi hu);rw[u7];simp[Instr.extract,hu]
  ·cases ar
 ·rename_i r off len sz ps hx;obtain⟨us,u7,lT,⟨u,Q5,G6⟩,hh⟩:=hp.ev x _ hx;cases i with
  |zero =>rw[cz ar];exact dc.pure (e := .row r off len sz) (cv rfl (by rw[u7];simp[Instr.extract,Q5])) G6
  |succ j =>
   simp only at ar;split at ar
   ·rename_i p hpj;rw[cz ar];have hi:j+1<us.size:=by have:=(afQ.1 hpj).1;omega
    have hu:us[j+1]? = some us[j+1]:=ah2 hi;exact dc.pure (e := .pv p) (cv rfl (by rw[u7];simp[Instr.extract,hu])) (hh j p _ hpj hu)
   ·cases ar
 ·cases ar
theorem yh{x:Operand}{xt t:TypeId}{ok:Bool}(hT:n8 P T)(hp:Af a w β L I aG ρ)(ar:bW T aG dst (.typeAssert x xt t ok) ρ h=some res) :
  dc P ⟨dst,.typeAssert x xt t ok,ty,pos,after,guard⟩ a β L I w res:=by
 cases ok with
 |false=>simp[bW] at ar
 |true =>
  simp only[bW] at ar;split at ar
  ·rename_i d u p hd hx;split at ar
   ·rename_i k hk;cases hb:Nat.beq u t with
    |false=>simp[hb] at ar
    |true =>
     simp only[hb,cond_true] at ar;have hut:u=t:=ag0 hb;subst hut;rw[cz ar];obtain⟨un,hu,_,hf⟩:=(hT u d hd).under;rw[hk] at hf;have hf:un = .int k:=hf;subst hf;have hr:Rd I w (.iface u p) (a.eval x):=hp.ev x _ hx;generalize u7:a.eval x=v at hr;cases hr with
     |iface _ _ v hv =>
      refine dc.pure (e := .pv _) (v := .tuple #[v,.bool true]) (cv rfl ?_) (Rd.aF _ _ rfl (fun j c y hc hy => ?_))
      ·rw[u7];simp[Instr.typeAssert,run_underlying hu]
      ·match j,hc,hy with
       |0,hc,hy=>simp at hc hy;subst hc hy;exact hv
       |1,hc,hy=>simp at hc hy;subst hc hy;exact .bool _
       |j+2,hc,hy=>simp at hc
   ·cases ar
  ·cases ar
theorem Q6{α:Type}{xs:Array α}{x:α}(h:xs.toList=[x]):xs = #[x]:=by apply aiU;simpa using h
theorem Ak{α:Type}{xs:Array α}{x y:α}(h:xs.toList=[x,y]):xs = #[x,y]:=by apply aiU;simpa using h
theorem Jt{c:Call}(hT:n8 P T)(hp:Af a w β L I aG ρ)(ar:bW T aG dst (.call c) ρ h=some res)(bT:dK res.ob) :
  dc P ⟨dst,.call c,ty,pos,after,guard⟩ a β L I w res:=by
 obtain⟨cl,args,N4⟩:=c;simp only[bW] at ar;split at ar
 ·rename_i x t ky Ju;have mX:=Q6 ky;have wW:=Q6 Ju;subst mX;subst wW;split at ar
  ·rename_i d e hd hx;split at ar
   ·rename_i el n hk hn;obtain⟨un,hu,_,hf⟩:=(hT t d hd).under;rw[hk] at hf;have hf:un = .slice el:=hf;subst hf;have hv:∃ao c,a.eval x = .slice ao n c:=by
     have he:=hp.ev x e hx;cases e with
     |pv p =>
      cases p<;>simp[lZ] at hn;subst hn;generalize a.eval x=v at he;cases he with
      |nil ao c=>exact⟨ao,c,rfl⟩
      |list _ b o c s f=>exact⟨_,c,rfl⟩
     |row r off len sz =>
      simp[lZ] at hn;subst hn;obtain⟨_,⟨_,rfl,hv⟩|⟨b,c,_,hv,_⟩⟩:=he
      ·exact⟨_,_,hv⟩
      ·exact⟨_,c,hv⟩
     |ji r len sz =>
      simp[lZ] at hn;subst hn;obtain⟨_,⟨_,rfl,hv⟩|⟨b,c,_,hv,_⟩⟩:=he
      ·exact⟨_,_,hv⟩
      ·exact⟨_,c,hv⟩
     |n7 _ _=>simp[lZ] at hn
     |ptr _ _=>simp[lZ] at hn
     |ox _=>simp[lZ] at hn
     |dead=>simp[lZ] at hn
     |oy _ _ _ _ _=>simp[lZ] at hn
     |Av _ _=>simp[lZ] at hn
     |mW _=>simp[lZ] at hn
    obtain⟨ao,c,hv⟩:=hv;have exec:(execOp a.eval ⟨dst,.call ⟨.builtin .len,#[x],#[t]⟩,ty,pos,after,guard⟩).run P w = .ok (.value (.int .i64 n)) w:=by simp[execOp,resolve,invoke,builtin,Builtin.len_,hv,run_underlying hu,goInt]
    split at ar
    ·rename_i m;injection ar with ar;subst ar
     have hm:(n:Int)=m:=bT;rw[hm] at exec;exact dc.pure (e := .pv _) exec (Rd.int _ _)
    ·rw[cz ar];exact dc.pure (e := .pv _) exec (Rd.int _ _)
   ·rename_i hk;obtain⟨un,hu,_,hf⟩:=(hT t d hd).under;rw[hk] at hf;have hf:un = .string:=hf;subst hf;split at ar
    ·rename_i s m;injection ar with ar;subst ar
     have hv:a.eval x = .string s:=by have he:Rd I w (.str s) (a.eval x):=hp.ev x _ hx;generalize a.eval x=v at he;cases he;rfl
     have hm:(s.size:Int)=m:=bT;have exec:(execOp a.eval ⟨dst,.call ⟨.builtin .len,#[x],#[t]⟩,ty,pos,after,guard⟩).run P w = .ok (.value (.int .i64 s.size)) w:=by simp[execOp,resolve,invoke,builtin,Builtin.len_,hv,run_underlying hu,goInt]
     rw[hm] at exec;exact dc.pure (e := .pv _) exec (Rd.int _ _)
    ·cases ar
   ·cases ar
  ·cases ar
 ·rename_i x y ky;have mX:=Ak ky;subst mX;split at ar
  ·rename_i k m k' m' TO r hx hy;cases Dt:(decide (k=k')&&decide (k=TO)) with
   |false=>simp[Dt] at ar
   |true =>
    simp only[Dt,cond_true] at ar;simp only[Bool.and_eq_true,decide_eq_true_eq] at Dt;obtain⟨rfl,rfl⟩:=Dt;injection ar with ar;subst ar
    have Dm:a.eval x = .int k m:=tm (hp.ev x _ hx);have yf:a.eval y = .int k m':=tm (hp.ev y _ hy);have bT:(if m'>m then m' else m)=r:=bT;refine dc.pure (e := .pv _) (v := .int k r) ?_ (Rd.int _ _);simp[execOp,resolve,invoke,builtin,Builtin.max_,Builtin.max2,Dm,yf];exact bT
  ·cases ar
 ·rename_i x y ky;have mX:=Ak ky;subst mX;split at ar
  ·rename_i k m k' m' TO r hx hy;cases Dt:(decide (k=k')&&decide (k=TO)) with
   |false=>simp[Dt] at ar
   |true =>
    simp only[Dt,cond_true] at ar;simp only[Bool.and_eq_true,decide_eq_true_eq] at Dt;obtain⟨rfl,rfl⟩:=Dt;injection ar with ar;subst ar
    have Dm:a.eval x = .int k m:=tm (hp.ev x _ hx);have yf:a.eval y = .int k m':=tm (hp.ev y _ hy);have bT:(if m'<m then m' else m)=r:=bT;refine dc.pure (e := .pv _) (v := .int k r) ?_ (Rd.int _ _);simp[execOp,resolve,invoke,builtin,Builtin.min_,Builtin.min2,Dm,yf];exact bT
  ·cases ar
 ·cases ar
theorem Ht{t:TypeId}{x i:Operand}(hT:n8 P T)(hp:Af a w β L I aG ρ)(ar:bW T aG dst (.index t x i) ρ h=some res)(bT:dK res.ob) :
  dc P ⟨dst,.index t x i,ty,pos,after,guard⟩ a β L I w res:=by
 simp only[bW] at ar;split at ar
 ·rename_i d cs ik n k row hd hx hi;have V9:a.eval i = .int ik n:=tm (hp.ev i _ hi);split at ar
  ·rename_i len el hk;obtain⟨un,hu,_,hf⟩:=(hT t d hd).under;rw[hk] at hf;obtain⟨hf,wL,Zg⟩:=hf;subst hf;split at ar
   ·rename_i de oW;cases hg:de.agg with
    |false=>simp[hg] at ar
    |true =>
     simp only[hg,cond_true] at ar;injection ar with ar;subst ar
     obtain⟨h1,bT⟩:=bT.cons;obtain⟨h2,bT⟩:=bT.cons;obtain⟨h3,h4⟩:=bT.cons;have h4:(cs.drop (k*de.size)).take de.size=row:=h4;subst h1;have hr:Rd I w (.agg cs) (a.eval x):=hp.ev x _ hx;generalize u7:a.eval x=v at hr;cases hr with
     |agg _ us hl ho hh =>
      have hc:bE I w cs us.toList:=⟨by simpa using hl,fun j c u hj Jj=>⟨ho j c hj,hh j c u hj (by simpa using Jj)⟩⟩;have TU:=hT el de oW;obtain⟨i,Zh,D8,Wa,hi4⟩:=TU.run_typeInfo (w:=w);have lT:P.cellsOf el=de.size:=by simp[Program.cellsOf,D8,Wa]
      obtain⟨Zi,Hl,Zj,_⟩:=TU.under;have Zf:wN P el=true:=by unfold wN;rw[Hl];show th Zi=true;exact Zj.trans hg
      have V8:A5 cs (k*de.size) (P.cellsOf el) (wN P el)=some (.agg row):=by unfold A5;rw[Zf,afZ,lT,ahi h3,afZ,h4]
      obtain⟨v,q1,q2⟩:=Hc w wL Zg hc V8;refine dc.pure (e := .pv (.agg row)) (cv rfl ?_) q2;have bH:(0:Int)≤(k:Int)∧(k:Int)<(len:Int):=by omega
      rw[u7,V9];unfold Instr.index;simp only[Sem.run_bind,asIntOf,Sem.run_pure,Result.andThen_ok,run_underlying hu];rw[ag9 bH];simp only[Sem.run_bind,TU.run_sizeOf w,Result.andThen_ok,Int.toNat_natCast];exact q1
   ·cases ar
  ·cases ar
 ·rename_i d s ik n k m hd hx hi;have V9:a.eval i = .int ik n:=tm (hp.ev i _ hi);have Dm:a.eval x = .string s:=by
   have hr:Rd I w (.str s) (a.eval x):=hp.ev x _ hx;generalize a.eval x=v at hr;cases hr;rfl
  split at ar
  ·rename_i hk;obtain⟨un,hu,_,hf⟩:=(hT t d hd).under;rw[hk] at hf;have hf:un = .string:=hf;subst hf;injection ar with ar;subst ar
   obtain⟨h1,h2⟩:=bT.cons;have h2:(s.data.toList[k]?).map (fun b=>(b.toNat:Int))=some m:=h2;subst h1;cases hb:s.data.toList[k]? with
   |none=>rw[hb] at h2;cases h2
   |some b =>
    rw[hb] at h2;simp only[Option.map_some,Option.some.injEq] at h2;refine dc.pure (e := .pv _) (v := .int .u8 m) (cv rfl ?_) (Rd.int _ _);rw[V9,Dm];have oX:s[k]? = some b:=by
     have bH:k<s.data.size:=by simpa using(afQ.1 hb).1
     have Zk:k<s.size:=bH;rw[getElem?_pos s k Zk]
     congr 1
     have h3:=(afQ.1 hb).2;have h4:s.data[k]=b:=by simpa using h3
     exact h4
    unfold Instr.index;simp only[Sem.run_bind,asIntOf,Sem.run_pure,Result.andThen_ok,run_underlying hu,Int.toNat_natCast];rw[ag9 (by omega),oX];simp[h2]
  ·cases ar
 ·cases ar
theorem Bi{fn:Fn}{first cap:Array Operand}(hp:Af a w β L I aG ρ)(ar:bW T aG dst (.makeFunc fn first cap) ρ h=some res) :
  dc P ⟨dst,.makeFunc fn first cap,ty,pos,after,guard⟩ a β L I w res:=by
 simp only[bW] at ar;split at ar
 ·rename_i f x h1 h2;have sQ:first = #[]:=by apply aiU;simpa using h1
  have Ww:=Q6 h2;subst sQ;subst Ww;split at ar
  ·rename_i r hx;rw[cz ar];obtain⟨hl,b,hb,hv⟩:=hp.ev x _ hx;refine dc.pure (e := .Av f r) (v := .func (.func f) #[] #[.pointer (some ⟨b,0,none⟩)]) ?_ ⟨hl,b,hb,rfl⟩;simp[execOp,Instr.makeFunc,hv]
  ·cases ar
 ·rename_i f h1 h2;have sQ:first = #[]:=by apply aiU;simpa using h1
  have Ww:cap = #[]:=by apply aiU;simpa using h2
  subst sQ;subst Ww;rw[cz ar];refine dc.pure (e := .pv _) (v := .func (.func f) #[] #[]) ?_ (Rd.fn _);simp[execOp,Instr.makeFunc]
 ·cases ar
theorem zl(hT:n8 P T)(hp:Af a w β L I aG ρ){o:Oper}(ar:bW T aG o.dst o.op ρ h=some res)(bT:dK res.ob):dc P o a β L I w res:=by
 obtain⟨dst,op,ty,pos,after,guard⟩:=o;cases op
 case move x=>exact Jo hp ar
 case makeFunc fn f1 cap=>exact Bi hp ar
 case assign x=>exact Fi hp ar
 case pick c x y=>exact Jp hp ar bT
 case alloc t=>exact Hi hT hp ar
 case box t x=>exact Ms hp ar
 case build t ps=>exact Hj hT hp ar
 case buildSlice t n ps=>exact ye hT hp ar bT
 case load t x=>exact Jq hT hp ar bT
 case nilCheck x=>exact Bh hp ar
 case binOp op t x y yt=>exact Hm hT hp ar bT
 case unOp op t x=>exact Jr hp ar bT
 case convert s t x=>exact Dz hT hp ar bT
 case makeInterface t x=>exact uU hT hp ar
 case makeSlice t x y=>exact Ah hT hp ar bT
 case slice t x lo hi mx=>exact Ho hT hp ar bT
 case fieldAddr t x f=>exact Ai hT hp ar
 case field t x f=>exact Hs hT hp ar
 case indexAddr t x i=>exact Aj hT hp ar bT
 case index t x i=>exact Ht hT hp ar bT
 case extract x i=>exact DA hp ar
 case typeAssert x xt t ok=>exact yh hT hp ar
 case call c=>exact Jt hT hp ar bT
 all_goals (exfalso;simp[bW] at ar)
end
end Go.Proofs.YtcpnocgollpbhaaGreatDoor.Sym
