/- Lemmas for the statements of this seat. -/
import Derived.Test.YtfjfekodeplcoaaGreatWSymH
namespace Go.Proofs.YtfjfekodeplcoaaGreat.Sym
open Go Go.RowKit
section
variable {P:Program} {T:jZ} {a:Act} {w:World} {β:Nat→Option Nat} {L I:Nat→Prop} {sto:aN} {ρ:Operand→Option EV} {h:Hint} {res:mW}
variable {dst:Option Tmp} {ty:TypeId} {pos:String} {after:Array Edge} {guard:Option (Nat×Bool)}
theorem qn{t:TypeId}{d:TD}{fs:List (Nat×Nat×Bool)}{f off size:Nat}{agg:Bool}(hd:oy P t d)(hk:d.kind = .struct fs)(hf:fs[f]? = some (off,size,agg)) :
  ∃ff fl,P.underlying t=some (.struct ff)∧ff[f]? = some fl∧fl.offset=off∧P.cellsOf fl.type=size∧tR P fl.type=agg∧(P.info? fl.type).isSome=true∧(P.underlying fl.type).isSome=true:=by
 obtain⟨u,hu,_,Jb⟩:=hd.under
 rw[hk] at Jb
 obtain⟨ff,rfl,h1,h2⟩:=Jb
 rw[←h1,List.getElem?_map] at hf
 cases hx:ff.toList[f]? with
 |none=>rw[hx] at hf;cases hf
 |some fl =>
  rw[hx] at hf
  simp only[Option.map_some,Option.some.injEq,Prod.mk.injEq] at hf
  have hm:fl∈ff:=by simpa using List.mem_of_getElem? hx
  exact⟨ff,fl,hu,by simpa using hx,hf.1,hf.2.1,hf.2.2,h2 fl hm⟩
theorem wG{t:TypeId}{x:Operand}{f:Nat}(hT:mN P T)(hp:wD a w β L I sto ρ)(ax:b9 T sto dst (.fieldAddr t x f) ρ h=some res) :
  cY P ⟨dst,.fieldAddr t x f,ty,pos,after,guard⟩ a β L I w res:=by
 simp only[b9] at ax
 split at ax
 ·rename_i d e hd hx
  split at ax
  ·rename_i fs hk
   split at ax
   ·rename_i off size agg hf
    obtain⟨ff,fl,hu,FV,G9,jo,_,tf,_⟩:=qn (hT t d hd) hk hf
    cases hs:Nat.ble 1 size with
    |false=>simp[hs] at ax
    |true =>
     simp only[hs,cond_true] at ax
     have G7:1≤size:=Nat.le_of_ble_eq_true hs
     have exec:∀b o,a.eval x = .pointer (some ⟨b,o,none⟩)→(Instr.fieldAt t (a.eval x) f).run P w = .ok (.pointer (some ⟨b,o+off,none⟩)) w:=by
      intro b o hv
      obtain⟨i,hi⟩:=Option.isSome_iff_exists.1 tf
      have pI:(sizeOf fl.type).run P w = .ok (P.cellsOf fl.type) w:=by simp[sizeOf,typeInfo,hi,Program.cellsOf]
      rw[hv]
      unfold Instr.fieldAt
      simp only[Sem.run_bind,run_underlying hu,Result.andThen_ok,FV,Instr.sureAddr,Sem.run_pure,fieldPlace,pI]
      rw[if_neg (by omega)]
      simp only[Sem.run_pure,Result.andThen_ok,gk,G9]
     split at ax
     ·rename_i r o
      rw[cp ax]
      obtain⟨hL,b,hb,hv⟩:=hp.ev x _ hx
      exact cY.pure (e := .ptr _ _) (ct rfl (exec _ _ hv)) ⟨hL,b,hb,rfl⟩
     ·rename_i cs
      rw[cp ax]
      obtain⟨b,o,hv,hb,hc⟩:=hp.ev x _ hx
      refine cY.pure (e := .nh _) (ct rfl (exec _ _ hv)) ⟨b,o+off,rfl,hb,fun j y hy => ?_⟩
      rw[List.getElem?_drop] at hy
      have:=hc _ y hy
      rw[Nat.add_assoc]
      exact this
     ·rename_i r o
      rw[cp ax]
      obtain⟨hL,b,hb,hv⟩:=hp.ev x _ hx
      exact cY.pure (e := .mM _ _) (ct rfl (exec _ _ hv)) ⟨hL,b,hb,rfl⟩
     ·cases ax
   ·cases ax
  ·cases ax
 ·cases ax
theorem Cb{t:TypeId}{x:Operand}{f:Nat}(hT:mN P T)(hp:wD a w β L I sto ρ)(ax:b9 T sto dst (.field t x f) ρ h=some res) :
  cY P ⟨dst,.field t x f,ty,pos,after,guard⟩ a β L I w res:=by
 simp only[b9] at ax
 split at ax
 ·rename_i d cs hd hx
  split at ax
  ·rename_i fs hk
   split at ax
   ·rename_i off size agg hf
    split at ax
    ·rename_i p GB
     rw[cp ax]
     obtain⟨ff,fl,hu,FV,G9,jo,PY,tf,PZ⟩:=qn (hT t d hd) hk hf
     have hr:Rd I w (.agg cs) (a.eval x):=hp.ev x _ hx
     generalize xA:a.eval x=v at hr
     cases hr with
     |agg _ us hl ho hh =>
      have hc:bJ I w cs us.toList:=⟨by simpa using hl,fun j c u hj DF=>⟨ho j c hj,hh j c u hj (by simpa using DF)⟩⟩
      subst G9;subst jo;subst PY
      obtain⟨v,h1,h2⟩:=BZ w tf PZ hc GB
      refine cY.pure (e := .pv p) (ct rfl ?_) h2
      rw[xA]
      unfold Instr.field
      simp only[Sem.run_bind,run_underlying hu,Result.andThen_ok,FV,asAgg,Sem.run_pure]
      exact h1
    ·cases ax
   ·cases ax
  ·cases ax
 ·cases ax
theorem wH{t:TypeId}{x i:Operand}(hT:mN P T)(hp:wD a w β L I sto ρ)(ax:b9 T sto dst (.indexAddr t x i) ρ h=some res)(cd:dw res.ob) :
  cY P ⟨dst,.indexAddr t x i,ty,pos,after,guard⟩ a β L I w res:=by
 simp only[b9] at ax
 split at ax
 ·rename_i d e ik n hd hx hi
  have No:a.eval i = .int ik n:=ql (hp.ev i _ hi)
  split at ax
  ·rename_i el hk
   obtain⟨un,hu,_,hf⟩:=(hT t d hd).under
   rw[hk] at hf
   have hf:un = .slice el:=hf
   subst hf
   split at ax
   ·rename_i de oA
    have exec:∀(b o len c k:Nat),a.eval x = .slice (some ⟨b,o,none⟩) len c→n=(k:Int)→k<len→(Instr.indexAt t (a.eval x) (a.eval i)).run P w = .ok (.pointer (some ⟨b,o+k*de.size,none⟩)) w:=by
     intro b o len c k hv hn hk
     subst hn
     have tf:(0:Int)≤(k:Int)∧(k:Int)<(len:Int):=by omega
     rw[hv,No]
     unfold Instr.indexAt
     simp only[Sem.run_bind,asIntOf,Sem.run_pure,Result.andThen_ok,run_underlying hu]
     have Sc:(if len≤1 then false else false:Bool)=false:=by split<;>rfl
     simp only[tf,and_self,if_true,Sem.run_bind,(hT el de oA).run_sizeOf w,Result.andThen_ok,Sem.run_pure,Int.toNat_natCast,gk]
    split at ax
    ·rename_i r off len sz k
     cases jo:Nat.beq sz de.size with
     |false=>simp[jo] at ax
     |true =>
      simp only[jo,cond_true] at ax
      have AN:sz=de.size:=Nat.eq_of_beq_eq_true jo
      injection ax with ax;subst ax
      obtain⟨h1,h2⟩:=cd.cons
      have h2:k<len:=h2
      obtain⟨hL,⟨_,Ca,_⟩|⟨b,c,hb,hv,_⟩⟩:=hp.ev x _ hx
      ·omega
      ·exact cY.pure (e := .ptr _ _) (ct rfl (exec _ _ _ _ k hv h1 h2)) ⟨hL,b,hb,by rw[AN]⟩
    ·rename_i jj len sz k
     cases jo:Nat.beq sz de.size with
     |false=>simp[jo] at ax
     |true =>
      simp only[jo,cond_true] at ax
      have AN:sz=de.size:=Nat.eq_of_beq_eq_true jo
      injection ax with ax;subst ax
      obtain⟨h1,h2⟩:=cd.cons
      have h2:k<len:=h2
      obtain⟨hL,⟨_,Ca,_⟩|⟨b,c,hb,hv,_⟩⟩:=hp.ev x _ hx
      ·omega
      ·exact cY.pure (e := .mM _ _) (ct rfl (exec _ _ _ _ k hv h1 h2)) ⟨hL,b,hb,by rw[AN,Nat.zero_add]⟩
    ·rename_i xs k row
     injection ax with ax;subst ax
     obtain⟨h1,cd⟩:=cd.cons
     obtain⟨h2,h3⟩:=cd.cons
     have h3:row.length=de.size:=h3
     have hr:Rd I w (.list xs) (a.eval x):=hp.ev x _ hx
     have cN:k<xs.length:=(List.getElem?_eq_some_iff.1 h2).1
     generalize xA:a.eval x=v at hr
     cases hr with
     |nil=>simp at cN
     |list _ b o c s f hc hb hs ho hh =>
      have NO:s=de.size:=by rw[←hs k row h2,h3]
      subst NO
      refine cY.pure (e := .nh _) (ct rfl (exec b o _ c k xA h1 cN)) ⟨b,_,rfl,hb,fun j y hy => ?_⟩
      have g:=ho k j row y h2 hy
      refine⟨g.1,f k j,?_,hh k j row y h2 hy⟩
      rw[Nat.add_assoc]
      exact g.2
    ·cases ax
   ·cases ax
  ·rename_i len el hk
   obtain⟨un,hu,_,hf⟩:=(hT t d hd).under
   rw[hk] at hf
   obtain⟨hf,_,_⟩:=hf
   subst hf
   split at ax
   ·rename_i de oA
    split at ax
    ·rename_i r off k
     injection ax with ax;subst ax
     obtain⟨h1,h2⟩:=cd.cons
     have h2:k<len:=h2
     obtain⟨hL,b,hb,hv⟩:=hp.ev x _ hx
     refine cY.pure (e := .ptr _ _) (v := .pointer (some ⟨b,off+k*de.size,none⟩)) (ct rfl ?_) ⟨hL,b,hb,rfl⟩
     subst h1
     have tf:(0:Int)≤(k:Int)∧(k:Int)<(len:Int):=by omega
     rw[hv,No]
     unfold Instr.indexAt
     simp only[Sem.run_bind,asIntOf,Sem.run_pure,Result.andThen_ok,run_underlying hu,Instr.sureAddr]
     simp only[tf,and_self,if_true,Sem.run_bind,(hT el de oA).run_sizeOf w,Result.andThen_ok,Sem.run_pure,Int.toNat_natCast,gk]
    ·cases ax
   ·cases ax
  ·cases ax
 ·cases ax
theorem zx{x:Operand}{i:Nat}(hp:wD a w β L I sto ρ)(ax:b9 T sto dst (.extract x i) ρ h=some res) :
  cY P ⟨dst,.extract x i,ty,pos,after,guard⟩ a β L I w res:=by
 simp only[b9] at ax
 split at ax
 ·rename_i vs hx
  split at ax
  ·rename_i p Sd
   rw[cp ax]
   have hr:Rd I w (.bh vs) (a.eval x):=hp.ev x _ hx
   generalize xA:a.eval x=v at hr
   cases hr with
   |bh _ us hl hh =>
    have hi:i<us.size:=by rw[←hl];exact(List.getElem?_eq_some_iff.1 Sd).1
    have hu:us[i]? = some us[i]:=Array.getElem?_eq_getElem hi
    refine cY.pure (e := .pv p) (ct rfl ?_) (hh i p _ Sd hu)
    rw[xA]
    simp[Instr.extract,hu]
  ·cases ax
 ·rename_i r off len sz ps hx
  obtain⟨us,xA,jo,⟨u,DO,Jd⟩,hh⟩:=hp.ev x _ hx
  cases i with
  |zero =>
   rw[cp ax]
   exact cY.pure (e := .row r off len sz) (ct rfl (by rw[xA];simp[Instr.extract,DO])) Jd
  |succ j =>
   simp only at ax
   split at ax
   ·rename_i p Se
    rw[cp ax]
    have hi:j+1<us.size:=by have:=(List.getElem?_eq_some_iff.1 Se).1;omega
    have hu:us[j+1]? = some us[j+1]:=Array.getElem?_eq_getElem hi
    exact cY.pure (e := .pv p) (ct rfl (by rw[xA];simp[Instr.extract,hu])) (hh j p _ Se hu)
   ·cases ax
 ·cases ax
theorem u6{x:Operand}{xt t:TypeId}{ok:Bool}(hT:mN P T)(hp:wD a w β L I sto ρ)(ax:b9 T sto dst (.typeAssert x xt t ok) ρ h=some res) :
  cY P ⟨dst,.typeAssert x xt t ok,ty,pos,after,guard⟩ a β L I w res:=by
 cases ok with
 |false=>simp[b9] at ax
 |true =>
  simp only[b9] at ax
  split at ax
  ·rename_i d u p hd hx
   split at ax
   ·rename_i k hk
    cases hb:Nat.beq u t with
    |false=>simp[hb] at ax
    |true =>
     simp only[hb,cond_true] at ax
     have Ti:u=t:=Nat.eq_of_beq_eq_true hb
     subst Ti
     rw[cp ax]
     obtain⟨un,hu,_,hf⟩:=(hT u d hd).under
     rw[hk] at hf
     have hf:un = .int k:=hf
     subst hf
     have hr:Rd I w (.iface u p) (a.eval x):=hp.ev x _ hx
     generalize xA:a.eval x=v at hr
     cases hr with
     |iface _ _ v hv =>
      refine cY.pure (e := .pv _) (v := .tuple #[v,.bool true]) (ct rfl ?_) (Rd.bh _ _ rfl (fun j c y hc hy => ?_))
      ·rw[xA]
       simp[Instr.typeAssert,run_underlying hu]
      ·match j,hc,hy with
       |0,hc,hy=>simp at hc hy;subst hc hy;exact hv
       |1,hc,hy=>simp at hc hy;subst hc hy;exact .bool _
       |j+2,hc,hy=>simp at hc
   ·cases ax
  ·cases ax
theorem JG{α:Type}{xs:Array α}{x:α}(h:xs.toList=[x]):xs = #[x]:=by
 apply Array.ext';simpa using h
theorem wI{α:Type}{xs:Array α}{x y:α}(h:xs.toList=[x,y]):xs = #[x,y]:=by
 apply Array.ext';simpa using h
theorem DP{c:Call}(hT:mN P T)(hp:wD a w β L I sto ρ)(ax:b9 T sto dst (.call c) ρ h=some res)(cd:dw res.ob) :
  cY P ⟨dst,.call c,ty,pos,after,guard⟩ a β L I w res:=by
 obtain⟨cl,args,GC⟩:=c
 simp only[b9] at ax
 split at ax
 ·rename_i x t gT DQ
  have lY:=JG gT
  have tY:=JG DQ
  subst lY;subst tY
  split at ax
  ·rename_i d e hd hx
   split at ax
   ·rename_i el n hk hn
    obtain⟨un,hu,_,hf⟩:=(hT t d hd).under
    rw[hk] at hf
    have hf:un = .slice el:=hf
    subst hf
    have hv:∃ao c,a.eval x = .slice ao n c:=by
     have he:=hp.ev x e hx
     cases e with
     |pv p =>
      cases p<;>simp[kT] at hn
      subst hn
      generalize a.eval x=v at he
      cases he with
      |nil ao c=>exact⟨ao,c,rfl⟩
      |list _ b o c s f=>exact⟨_,c,rfl⟩
     |row r off len sz =>
      simp[kT] at hn
      subst hn
      obtain⟨_,⟨_,rfl,hv⟩|⟨b,c,_,hv,_⟩⟩:=he
      ·exact⟨_,_,hv⟩
      ·exact⟨_,c,hv⟩
     |ox r len sz =>
      simp[kT] at hn
      subst hn
      obtain⟨_,⟨_,rfl,hv⟩|⟨b,c,_,hv,_⟩⟩:=he
      ·exact⟨_,_,hv⟩
      ·exact⟨_,c,hv⟩
     |mM _ _=>simp[kT] at hn
     |ptr _ _=>simp[kT] at hn
     |nh _=>simp[kT] at hn
     |dead=>simp[kT] at hn
     |ni _ _ _ _ _=>simp[kT] at hn
     |lX _ _=>simp[kT] at hn
     |gj _=>simp[kT] at hn
    obtain⟨ao,c,hv⟩:=hv
    have exec:(execOp a.eval ⟨dst,.call ⟨.builtin .len,#[x],#[t]⟩,ty,pos,after,guard⟩).run P w = .ok (.value (.int .i64 n)) w:=by
     simp[execOp,resolve,invoke,builtin,Builtin.len_,hv,run_underlying hu,goInt]
    split at ax
    ·rename_i m
     injection ax with ax;subst ax
     have hm:(n:Int)=m:=cd
     rw[hm] at exec
     exact cY.pure (e := .pv _) exec (Rd.int _ _)
    ·rw[cp ax]
     exact cY.pure (e := .pv _) exec (Rd.int _ _)
   ·rename_i hk
    obtain⟨un,hu,_,hf⟩:=(hT t d hd).under
    rw[hk] at hf
    have hf:un = .string:=hf
    subst hf
    split at ax
    ·rename_i s m
     injection ax with ax;subst ax
     have hv:a.eval x = .string s:=by
      have he:Rd I w (.str s) (a.eval x):=hp.ev x _ hx
      generalize a.eval x=v at he
      cases he;rfl
     have hm:(s.size:Int)=m:=cd
     have exec:(execOp a.eval ⟨dst,.call ⟨.builtin .len,#[x],#[t]⟩,ty,pos,after,guard⟩).run P w = .ok (.value (.int .i64 s.size)) w:=by
      simp[execOp,resolve,invoke,builtin,Builtin.len_,hv,run_underlying hu,goInt]
     rw[hm] at exec
     exact cY.pure (e := .pv _) exec (Rd.int _ _)
    ·cases ax
   ·cases ax
  ·cases ax
 ·rename_i x y gT
  have lY:=wI gT
  subst lY
  split at ax
  ·rename_i k m k' m' Ly r hx hy
   cases zt:(decide (k=k')&&decide (k=Ly)) with
   |false=>simp[zt] at ax
   |true =>
    simp only[zt,cond_true] at ax
    simp only[Bool.and_eq_true,decide_eq_true_eq] at zt
    obtain⟨rfl,rfl⟩:=zt
    injection ax with ax;subst ax
    have zm:a.eval x = .int k m:=ql (hp.ev x _ hx)
    have u4:a.eval y = .int k m':=ql (hp.ev y _ hy)
    have cd:(if m'>m then m' else m)=r:=cd
    refine cY.pure (e := .pv _) (v := .int k r) ?_ (Rd.int _ _)
    simp[execOp,resolve,invoke,builtin,Builtin.max_,Builtin.max2,zm,u4]
    exact cd
  ·cases ax
 ·rename_i x y gT
  have lY:=wI gT
  subst lY
  split at ax
  ·rename_i k m k' m' Ly r hx hy
   cases zt:(decide (k=k')&&decide (k=Ly)) with
   |false=>simp[zt] at ax
   |true =>
    simp only[zt,cond_true] at ax
    simp only[Bool.and_eq_true,decide_eq_true_eq] at zt
    obtain⟨rfl,rfl⟩:=zt
    injection ax with ax;subst ax
    have zm:a.eval x = .int k m:=ql (hp.ev x _ hx)
    have u4:a.eval y = .int k m':=ql (hp.ev y _ hy)
    have cd:(if m'<m then m' else m)=r:=cd
    refine cY.pure (e := .pv _) (v := .int k r) ?_ (Rd.int _ _)
    simp[execOp,resolve,invoke,builtin,Builtin.min_,Builtin.min2,zm,u4]
    exact cd
  ·cases ax
 ·cases ax
theorem Cc{t:TypeId}{x i:Operand}(hT:mN P T)(hp:wD a w β L I sto ρ)(ax:b9 T sto dst (.index t x i) ρ h=some res)(cd:dw res.ob) :
  cY P ⟨dst,.index t x i,ty,pos,after,guard⟩ a β L I w res:=by
 simp only[b9] at ax
 split at ax
 ·rename_i d cs ik n k row hd hx hi
  have No:a.eval i = .int ik n:=ql (hp.ev i _ hi)
  split at ax
  ·rename_i len el hk
   obtain⟨un,hu,_,hf⟩:=(hT t d hd).under
   rw[hk] at hf
   obtain⟨hf,tf,PZ⟩:=hf
   subst hf
   split at ax
   ·rename_i de oA
    cases hg:de.agg with
    |false=>simp[hg] at ax
    |true =>
     simp only[hg,cond_true] at ax
     injection ax with ax;subst ax
     obtain⟨h1,cd⟩:=cd.cons
     obtain⟨h2,cd⟩:=cd.cons
     obtain⟨h3,h4⟩:=cd.cons
     have h4:(cs.drop (k*de.size)).take de.size=row:=h4
     subst h1
     have hr:Rd I w (.agg cs) (a.eval x):=hp.ev x _ hx
     generalize xA:a.eval x=v at hr
     cases hr with
     |agg _ us hl ho hh =>
      have hc:bJ I w cs us.toList:=⟨by simpa using hl,fun j c u hj DF=>⟨ho j c hj,hh j c u hj (by simpa using DF)⟩⟩
      have LD:=hT el de oA
      obtain⟨i,Pd,zZ,Np,Vq⟩:=LD.run_typeInfo (w:=w)
      have jo:P.cellsOf el=de.size:=by simp[Program.cellsOf,zZ,Np]
      obtain⟨P1,B6,P2,_⟩:=LD.under
      have PY:tR P el=true:=by
       unfold tR
       rw[B6]
       show q9 P1=true
       exact P2.trans hg
      have GB:xq cs (k*de.size) (P.cellsOf el) (tR P el)=some (.agg row):=by
       unfold xq
       rw[PY,cond_true,jo,Nat.ble_eq_true_of_le h3,cond_true,h4]
      obtain⟨v,q1,q2⟩:=BZ w tf PZ hc GB
      refine cY.pure (e := .pv (.agg row)) (ct rfl ?_) q2
      have cN:(0:Int)≤(k:Int)∧(k:Int)<(len:Int):=by omega
      rw[xA,No]
      unfold Instr.index
      simp only[Sem.run_bind,asIntOf,Sem.run_pure,Result.andThen_ok,run_underlying hu]
      rw[if_pos cN]
      simp only[Sem.run_bind,LD.run_sizeOf w,Result.andThen_ok,Int.toNat_natCast]
      exact q1
   ·cases ax
  ·cases ax
 ·rename_i d s ik n k m hd hx hi
  have No:a.eval i = .int ik n:=ql (hp.ev i _ hi)
  have zm:a.eval x = .string s:=by
   have hr:Rd I w (.str s) (a.eval x):=hp.ev x _ hx
   generalize a.eval x=v at hr
   cases hr;rfl
  split at ax
  ·rename_i hk
   obtain⟨un,hu,_,hf⟩:=(hT t d hd).under
   rw[hk] at hf
   have hf:un = .string:=hf
   subst hf
   injection ax with ax;subst ax
   obtain⟨h1,h2⟩:=cd.cons
   have h2:(s.data.toList[k]?).map (fun b=>(b.toNat:Int))=some m:=h2
   subst h1
   cases hb:s.data.toList[k]? with
   |none=>rw[hb] at h2;cases h2
   |some b =>
    rw[hb] at h2
    simp only[Option.map_some,Option.some.injEq] at h2
    refine cY.pure (e := .pv _) (v := .int .u8 m) (ct rfl ?_) (Rd.int _ _)
    rw[No,zm]
    have lZ:s[k]? = some b:=by
     have cN:k<s.data.size:=by simpa using(List.getElem?_eq_some_iff.1 hb).1
     have P4:k<s.size:=cN
     rw[getElem?_pos s k P4]
     congr 1
     have h3:=(List.getElem?_eq_some_iff.1 hb).2
     have h4:s.data[k]=b:=by simpa using h3
     exact h4
    unfold Instr.index
    simp only[Sem.run_bind,asIntOf,Sem.run_pure,Result.andThen_ok,run_underlying hu,Int.toNat_natCast]
    rw[if_pos (by omega),lZ]
    simp[h2]
  ·cases ax
 ·cases ax
theorem xG{fn:Fn}{first cap:Array Operand}(hp:wD a w β L I sto ρ)(ax:b9 T sto dst (.makeFunc fn first cap) ρ h=some res) :
  cY P ⟨dst,.makeFunc fn first cap,ty,pos,after,guard⟩ a β L I w res:=by
 simp only[b9] at ax
 split at ax
 ·rename_i f x h1 h2
  have Ha:first = #[]:=by apply Array.ext';simpa using h1
  have LF:=JG h2
  subst Ha;subst LF
  split at ax
  ·rename_i r hx
   rw[cp ax]
   obtain⟨hl,b,hb,hv⟩:=hp.ev x _ hx
   refine cY.pure (e := .lX f r) (v := .func (.func f) #[] #[.pointer (some ⟨b,0,none⟩)]) ?_ ⟨hl,b,hb,rfl⟩
   simp[execOp,Instr.makeFunc,hv]
  ·cases ax
 ·rename_i f h1 h2
  have Ha:first = #[]:=by apply Array.ext';simpa using h1
  have LF:cap = #[]:=by apply Array.ext';simpa using h2
  subst Ha;subst LF
  rw[cp ax]
  refine cY.pure (e := .pv _) (v := .func (.func f) #[] #[]) ?_ (Rd.fn _)
  simp[execOp,Instr.makeFunc]
 ·cases ax
theorem vP(hT:mN P T)(hp:wD a w β L I sto ρ){o:Oper}(ax:b9 T sto o.dst o.op ρ h=some res)(cd:dw res.ob):cY P o a β L I w res:=by
 obtain⟨dst,op,ty,pos,after,guard⟩:=o
 cases op
 case move x=>exact DK hp ax
 case makeFunc fn f1 cap=>exact xG hp ax
 case assign x=>exact AM hp ax
 case pick c x y=>exact DL hp ax cd
 case alloc t=>exact B3 hT hp ax
 case box t x=>exact FP hp ax
 case build t ps=>exact B4 hT hp ax
 case buildSlice t n ps=>exact u0 hT hp ax cd
 case load t x=>exact DM hT hp ax cd
 case nilCheck x=>exact xE hp ax
 case binOp op t x y yt=>exact B7 hT hp ax cd
 case unOp op t x=>exact DN hp ax cd
 case convert s t x=>exact zw hT hp ax cd
 case makeInterface t x=>exact sB hT hp ax
 case makeSlice t x y=>exact wE hT hp ax cd
 case slice t x lo hi mx=>exact B9 hT hp ax cd
 case fieldAddr t x f=>exact wG hT hp ax
 case field t x f=>exact Cb hT hp ax
 case indexAddr t x i=>exact wH hT hp ax cd
 case index t x i=>exact Cc hT hp ax cd
 case extract x i=>exact zx hp ax
 case typeAssert x xt t ok=>exact u6 hT hp ax
 case call c=>exact DP hT hp ax cd
 all_goals (exfalso;simp[b9] at ax)
end
end Go.Proofs.YtfjfekodeplcoaaGreat.Sym
