/- Lemmas for the statements of this seat. -/
import Derived.Test.YtfjfekodeplcoaaGreatWSymH
namespace Go.Proofs.YtfjfekodeplcoaaGreat.Sym
open Go Go.RowKit
section
variable {P:Program} {T:ja} {a:Act} {w:World} {β:Nat→Option Nat} {L I:Nat→Prop} {sto:aG} {ρ:Operand→Option EV} {h:Hint} {res:mU}
variable {dst:Option Tmp} {ty:TypeId} {pos:String} {after:Array Edge} {guard:Option (Nat×Bool)}
theorem qm{t:TypeId}{d:TD}{fs:List (Nat×Nat×Bool)}{f off size:Nat}{agg:Bool}(hd:ov P t d)(hk:d.kind = .struct fs)(hf:fs[f]? = some (off,size,agg)) :
  ∃ff fl,P.underlying t=some (.struct ff)∧ff[f]? = some fl∧fl.offset=off∧P.cellsOf fl.type=size∧uu P fl.type=agg∧(P.info? fl.type).isSome=true∧(P.underlying fl.type).isSome=true:=by
 obtain⟨u,hu,_,J7⟩:=hd.under
 rw[hk] at J7
 obtain⟨ff,rfl,h1,h2⟩:=J7
 rw[←h1,List.getElem?_map] at hf
 cases hx:ff.toList[f]? with
 |none=>rw[hx] at hf;cases hf
 |some fl =>
  rw[hx] at hf
  simp only[Option.map_some,Option.some.injEq,Prod.mk.injEq] at hf
  have hm:fl∈ff:=by simpa using List.mem_of_getElem? hx
  exact⟨ff,fl,hu,by simpa using hx,hf.1,hf.2.1,hf.2.2,h2 fl hm⟩
theorem xw{t:TypeId}{x:Operand}{f:Nat}(hT:lH P T)(hp:xu a w β L I sto ρ)(aw:cr T sto dst (.fieldAddr t x f) ρ h=some res) :
  cX P ⟨dst,.fieldAddr t x f,ty,pos,after,guard⟩ a β L I w res:=by
 simp only[cr] at aw
 split at aw
 ·rename_i d e hd hx
  split at aw
  ·rename_i fs hk
   split at aw
   ·rename_i off size agg hf
    obtain⟨ff,fl,hu,FO,HQ,jC,_,tD,_⟩:=qm (hT t d hd) hk hf
    cases hs:Nat.ble 1 size with
    |false=>simp[hs] at aw
    |true =>
     simp only[hs,cond_true] at aw
     have EB:1≤size:=Nat.le_of_ble_eq_true hs
     have exec:∀b o,a.eval x = .pointer (some ⟨b,o,none⟩)→(Instr.fieldAt t (a.eval x) f).run P w = .ok (.pointer (some ⟨b,o+off,none⟩)) w:=by
      intro b o hv
      obtain⟨i,hi⟩:=Option.isSome_iff_exists.1 tD
      have pG:(sizeOf fl.type).run P w = .ok (P.cellsOf fl.type) w:=by simp[sizeOf,typeInfo,hi,Program.cellsOf]
      rw[hv]
      unfold Instr.fieldAt
      simp only[Sem.run_bind,run_underlying hu,Result.andThen_ok,FO,Instr.sureAddr,Sem.run_pure,fieldPlace,pG]
      rw[if_neg (by omega)]
      simp only[Sem.run_pure,Result.andThen_ok,eC,HQ]
     split at aw
     ·rename_i r o
      rw[cz aw]
      obtain⟨hL,b,hb,hv⟩:=hp.ev x _ hx
      exact cX.pure (e := .ptr _ _) (cx rfl (exec _ _ hv)) ⟨hL,b,hb,rfl⟩
     ·rename_i cs
      rw[cz aw]
      obtain⟨b,o,hv,hb,hc⟩:=hp.ev x _ hx
      refine cX.pure (e := .mL _) (cx rfl (exec _ _ hv)) ⟨b,o+off,rfl,hb,fun j y hy => ?_⟩
      rw[List.getElem?_drop] at hy
      have:=hc _ y hy
      rw[Nat.add_assoc]
      exact this
     ·rename_i r o
      rw[cz aw]
      obtain⟨hL,b,hb,hv⟩:=hp.ev x _ hx
      exact cX.pure (e := .kf _ _) (cx rfl (exec _ _ hv)) ⟨hL,b,hb,rfl⟩
     ·cases aw
   ·cases aw
  ·cases aw
 ·cases aw
theorem CX{t:TypeId}{x:Operand}{f:Nat}(hT:lH P T)(hp:xu a w β L I sto ρ)(aw:cr T sto dst (.field t x f) ρ h=some res) :
  cX P ⟨dst,.field t x f,ty,pos,after,guard⟩ a β L I w res:=by
 simp only[cr] at aw
 split at aw
 ·rename_i d cs hd hx
  split at aw
  ·rename_i fs hk
   split at aw
   ·rename_i off size agg hf
    split at aw
    ·rename_i p Q4
     rw[cz aw]
     obtain⟨ff,fl,hu,FO,HQ,jC,Q5,tD,Q6⟩:=qm (hT t d hd) hk hf
     have hr:Rd I w (.agg cs) (a.eval x):=hp.ev x _ hx
     generalize yx:a.eval x=v at hr
     cases hr with
     |agg _ us hl ho hh =>
      have hc:bT I w cs us.toList:=⟨by simpa using hl,fun j c u hj Es=>⟨ho j c hj,hh j c u hj (by simpa using Es)⟩⟩
      subst HQ;subst jC;subst Q5
      obtain⟨v,h1,h2⟩:=CN w tD Q6 hc Q4
      refine cX.pure (e := .pv p) (cx rfl ?_) h2
      rw[yx]
      unfold Instr.field
      simp only[Sem.run_bind,run_underlying hu,Result.andThen_ok,FO,asAgg,Sem.run_pure]
      exact h1
    ·cases aw
   ·cases aw
  ·cases aw
 ·cases aw
theorem xx{t:TypeId}{x i:Operand}(hT:lH P T)(hp:xu a w β L I sto ρ)(aw:cr T sto dst (.indexAddr t x i) ρ h=some res)(bK:cW res.ob) :
  cX P ⟨dst,.indexAddr t x i,ty,pos,after,guard⟩ a β L I w res:=by
 simp only[cr] at aw
 split at aw
 ·rename_i d e ik n hd hx hi
  have Ow:a.eval i = .int ik n:=qk (hp.ev i _ hi)
  split at aw
  ·rename_i el hk
   obtain⟨un,hu,_,hf⟩:=(hT t d hd).under
   rw[hk] at hf
   have hf:un = .slice el:=hf
   subst hf
   split at aw
   ·rename_i de lI
    have exec:∀(b o len c k:Nat),a.eval x = .slice (some ⟨b,o,none⟩) len c→n=(k:Int)→k<len→(Instr.indexAt t (a.eval x) (a.eval i)).run P w = .ok (.pointer (some ⟨b,o+k*de.size,none⟩)) w:=by
     intro b o len c k hv hn hk
     subst hn
     have tD:(0:Int)≤(k:Int)∧(k:Int)<(len:Int):=by omega
     rw[hv,Ow]
     unfold Instr.indexAt
     simp only[Sem.run_bind,asIntOf,Sem.run_pure,Result.andThen_ok,run_underlying hu]
     have Ty:(if len≤1 then false else false:Bool)=false:=by split<;>rfl
     simp only[tD,and_self,if_true,Sem.run_bind,(hT el de lI).run_sizeOf w,Result.andThen_ok,Sem.run_pure,Int.toNat_natCast,eC]
    split at aw
    ·rename_i r off len sz k
     cases jC:Nat.beq sz de.size with
     |false=>simp[jC] at aw
     |true =>
      simp only[jC,cond_true] at aw
      have vJ:sz=de.size:=Nat.eq_of_beq_eq_true jC
      injection aw with aw;subst aw
      obtain⟨h1,h2⟩:=bK.cons
      have h2:k<len:=h2
      obtain⟨hL,⟨_,tC,_⟩|⟨b,c,hb,hv,_⟩⟩:=hp.ev x _ hx
      ·omega
      ·exact cX.pure (e := .ptr _ _) (cx rfl (exec _ _ _ _ k hv h1 h2)) ⟨hL,b,hb,by rw[vJ]⟩
    ·rename_i jj len sz k
     cases jC:Nat.beq sz de.size with
     |false=>simp[jC] at aw
     |true =>
      simp only[jC,cond_true] at aw
      have vJ:sz=de.size:=Nat.eq_of_beq_eq_true jC
      injection aw with aw;subst aw
      obtain⟨h1,h2⟩:=bK.cons
      have h2:k<len:=h2
      obtain⟨hL,⟨_,tC,_⟩|⟨b,c,hb,hv,_⟩⟩:=hp.ev x _ hx
      ·omega
      ·exact cX.pure (e := .kf _ _) (cx rfl (exec _ _ _ _ k hv h1 h2)) ⟨hL,b,hb,by rw[vJ,Nat.zero_add]⟩
    ·rename_i xs k row
     injection aw with aw;subst aw
     obtain⟨h1,bK⟩:=bK.cons
     obtain⟨h2,h3⟩:=bK.cons
     have h3:row.length=de.size:=h3
     have hr:Rd I w (.list xs) (a.eval x):=hp.ev x _ hx
     have cQ:k<xs.length:=(List.getElem?_eq_some_iff.1 h2).1
     generalize yx:a.eval x=v at hr
     cases hr with
     |nil=>simp at cQ
     |list _ b o c s f hc hb hs ho hh =>
      have LD:s=de.size:=by rw[←hs k row h2,h3]
      subst LD
      refine cX.pure (e := .mL _) (cx rfl (exec b o _ c k yx h1 cQ)) ⟨b,_,rfl,hb,fun j y hy => ?_⟩
      have g:=ho k j row y h2 hy
      refine⟨g.1,f k j,?_,hh k j row y h2 hy⟩
      rw[Nat.add_assoc]
      exact g.2
    ·cases aw
   ·cases aw
  ·rename_i len el hk
   obtain⟨un,hu,_,hf⟩:=(hT t d hd).under
   rw[hk] at hf
   obtain⟨hf,_,_⟩:=hf
   subst hf
   split at aw
   ·rename_i de lI
    split at aw
    ·rename_i r off k
     injection aw with aw;subst aw
     obtain⟨h1,h2⟩:=bK.cons
     have h2:k<len:=h2
     obtain⟨hL,b,hb,hv⟩:=hp.ev x _ hx
     refine cX.pure (e := .ptr _ _) (v := .pointer (some ⟨b,off+k*de.size,none⟩)) (cx rfl ?_) ⟨hL,b,hb,rfl⟩
     subst h1
     have tD:(0:Int)≤(k:Int)∧(k:Int)<(len:Int):=by omega
     rw[hv,Ow]
     unfold Instr.indexAt
     simp only[Sem.run_bind,asIntOf,Sem.run_pure,Result.andThen_ok,run_underlying hu,Instr.sureAddr]
     simp only[tD,and_self,if_true,Sem.run_bind,(hT el de lI).run_sizeOf w,Result.andThen_ok,Sem.run_pure,Int.toNat_natCast,eC]
    ·cases aw
   ·cases aw
  ·cases aw
 ·cases aw
theorem Ay{x:Operand}{i:Nat}(hp:xu a w β L I sto ρ)(aw:cr T sto dst (.extract x i) ρ h=some res) :
  cX P ⟨dst,.extract x i,ty,pos,after,guard⟩ a β L I w res:=by
 simp only[cr] at aw
 split at aw
 ·rename_i vs hx
  split at aw
  ·rename_i p Tz
   rw[cz aw]
   have hr:Rd I w (.bx vs) (a.eval x):=hp.ev x _ hx
   generalize yx:a.eval x=v at hr
   cases hr with
   |bx _ us hl hh =>
    have hi:i<us.size:=by rw[←hl];exact(List.getElem?_eq_some_iff.1 Tz).1
    have hu:us[i]? = some us[i]:=Array.getElem?_eq_getElem hi
    refine cX.pure (e := .pv p) (cx rfl ?_) (hh i p _ Tz hu)
    rw[yx]
    simp[Instr.extract,hu]
  ·cases aw
 ·rename_i r off len sz ps hx
  obtain⟨us,yx,jC,⟨u,HP,J9⟩,hh⟩:=hp.ev x _ hx
  cases i with
  |zero =>
   rw[cz aw]
   exact cX.pure (e := .row r off len sz) (cx rfl (by rw[yx];simp[Instr.extract,HP])) J9
  |succ j =>
   simp only at aw
   split at aw
   ·rename_i p TA
    rw[cz aw]
    have hi:j+1<us.size:=by have:=(List.getElem?_eq_some_iff.1 TA).1;omega
    have hu:us[j+1]? = some us[j+1]:=Array.getElem?_eq_getElem hi
    exact cX.pure (e := .pv p) (cx rfl (by rw[yx];simp[Instr.extract,hu])) (hh j p _ TA hu)
   ·cases aw
 ·cases aw
theorem vK{x:Operand}{xt t:TypeId}{ok:Bool}(hT:lH P T)(hp:xu a w β L I sto ρ)(aw:cr T sto dst (.typeAssert x xt t ok) ρ h=some res) :
  cX P ⟨dst,.typeAssert x xt t ok,ty,pos,after,guard⟩ a β L I w res:=by
 cases ok with
 |false=>simp[cr] at aw
 |true =>
  simp only[cr] at aw
  split at aw
  ·rename_i d u p hd hx
   split at aw
   ·rename_i k hk
    cases hb:Nat.beq u t with
    |false=>simp[hb] at aw
    |true =>
     simp only[hb,cond_true] at aw
     have UR:u=t:=Nat.eq_of_beq_eq_true hb
     subst UR
     rw[cz aw]
     obtain⟨un,hu,_,hf⟩:=(hT u d hd).under
     rw[hk] at hf
     have hf:un = .int k:=hf
     subst hf
     have hr:Rd I w (.iface u p) (a.eval x):=hp.ev x _ hx
     generalize yx:a.eval x=v at hr
     cases hr with
     |iface _ _ v hv =>
      refine cX.pure (e := .pv _) (v := .tuple #[v,.bool true]) (cx rfl ?_) (Rd.bx _ _ rfl (fun j c y hc hy => ?_))
      ·rw[yx]
       simp[Instr.typeAssert,run_underlying hu]
      ·match j,hc,hy with
       |0,hc,hy=>simp at hc hy;subst hc hy;exact hv
       |1,hc,hy=>simp at hc hy;subst hc hy;exact .bool _
       |j+2,hc,hy=>simp at hc
   ·cases aw
  ·cases aw
theorem GL{α:Type}{xs:Array α}{x:α}(h:xs.toList=[x]):xs = #[x]:=by
 apply Array.ext';simpa using h
theorem sS{α:Type}{xs:Array α}{x y:α}(h:xs.toList=[x,y]):xs = #[x,y]:=by
 apply Array.ext';simpa using h
theorem EE{c:Call}(hT:lH P T)(hp:xu a w β L I sto ρ)(aw:cr T sto dst (.call c) ρ h=some res)(bK:cW res.ob) :
  cX P ⟨dst,.call c,ty,pos,after,guard⟩ a β L I w res:=by
 obtain⟨cl,args,CY⟩:=c
 simp only[cr] at aw
 split at aw
 ·rename_i x t fZ yA
  have gV:=GL fZ
  have nO:=GL yA
  subst gV;subst nO
  split at aw
  ·rename_i d e hd hx
   split at aw
   ·rename_i el n hk hn
    obtain⟨un,hu,_,hf⟩:=(hT t d hd).under
    rw[hk] at hf
    have hf:un = .slice el:=hf
    subst hf
    have hv:∃ao c,a.eval x = .slice ao n c:=by
     have he:=hp.ev x e hx
     cases e with
     |pv p =>
      cases p<;>simp[kS] at hn
      subst hn
      generalize a.eval x=v at he
      cases he with
      |nil ao c=>exact⟨ao,c,rfl⟩
      |list _ b o c s f=>exact⟨_,c,rfl⟩
     |row r off len sz =>
      simp[kS] at hn
      subst hn
      obtain⟨_,⟨_,rfl,hv⟩|⟨b,c,_,hv,_⟩⟩:=he
      ·exact⟨_,_,hv⟩
      ·exact⟨_,c,hv⟩
     |cv r len sz =>
      simp[kS] at hn
      subst hn
      obtain⟨_,⟨_,rfl,hv⟩|⟨b,c,_,hv,_⟩⟩:=he
      ·exact⟨_,_,hv⟩
      ·exact⟨_,c,hv⟩
     |kf _ _=>simp[kS] at hn
     |ptr _ _=>simp[kS] at hn
     |mL _=>simp[kS] at hn
     |dead=>simp[kS] at hn
     |kN _ _ _ _ _=>simp[kS] at hn
     |mM _ _=>simp[kS] at hn
     |dV _=>simp[kS] at hn
    obtain⟨ao,c,hv⟩:=hv
    have exec:(execOp a.eval ⟨dst,.call ⟨.builtin .len,#[x],#[t]⟩,ty,pos,after,guard⟩).run P w = .ok (.value (.int .i64 n)) w:=by
     simp[execOp,resolve,invoke,builtin,Builtin.len_,hv,run_underlying hu,goInt]
    split at aw
    ·rename_i m
     injection aw with aw;subst aw
     have hm:(n:Int)=m:=bK
     rw[hm] at exec
     exact cX.pure (e := .pv _) exec (Rd.int _ _)
    ·rw[cz aw]
     exact cX.pure (e := .pv _) exec (Rd.int _ _)
   ·rename_i hk
    obtain⟨un,hu,_,hf⟩:=(hT t d hd).under
    rw[hk] at hf
    have hf:un = .string:=hf
    subst hf
    split at aw
    ·rename_i s m
     injection aw with aw;subst aw
     have hv:a.eval x = .string s:=by
      have he:Rd I w (.str s) (a.eval x):=hp.ev x _ hx
      generalize a.eval x=v at he
      cases he;rfl
     have hm:(s.size:Int)=m:=bK
     have exec:(execOp a.eval ⟨dst,.call ⟨.builtin .len,#[x],#[t]⟩,ty,pos,after,guard⟩).run P w = .ok (.value (.int .i64 s.size)) w:=by
      simp[execOp,resolve,invoke,builtin,Builtin.len_,hv,run_underlying hu,goInt]
     rw[hm] at exec
     exact cX.pure (e := .pv _) exec (Rd.int _ _)
    ·cases aw
   ·cases aw
  ·cases aw
 ·rename_i x y fZ
  have gV:=sS fZ
  subst gV
  split at aw
  ·rename_i k m k' m' Mt r hx hy
   cases Av:(decide (k=k')&&decide (k=Mt)) with
   |false=>simp[Av] at aw
   |true =>
    simp only[Av,cond_true] at aw
    simp only[Bool.and_eq_true,decide_eq_true_eq] at Av
    obtain⟨rfl,rfl⟩:=Av
    injection aw with aw;subst aw
    have td:a.eval x = .int k m:=qk (hp.ev x _ hx)
    have rE:a.eval y = .int k m':=qk (hp.ev y _ hy)
    have bK:(if m'>m then m' else m)=r:=bK
    refine cX.pure (e := .pv _) (v := .int k r) ?_ (Rd.int _ _)
    simp[execOp,resolve,invoke,builtin,Builtin.max_,Builtin.max2,td,rE]
    exact bK
  ·cases aw
 ·rename_i x y fZ
  have gV:=sS fZ
  subst gV
  split at aw
  ·rename_i k m k' m' Mt r hx hy
   cases Av:(decide (k=k')&&decide (k=Mt)) with
   |false=>simp[Av] at aw
   |true =>
    simp only[Av,cond_true] at aw
    simp only[Bool.and_eq_true,decide_eq_true_eq] at Av
    obtain⟨rfl,rfl⟩:=Av
    injection aw with aw;subst aw
    have td:a.eval x = .int k m:=qk (hp.ev x _ hx)
    have rE:a.eval y = .int k m':=qk (hp.ev y _ hy)
    have bK:(if m'<m then m' else m)=r:=bK
    refine cX.pure (e := .pv _) (v := .int k r) ?_ (Rd.int _ _)
    simp[execOp,resolve,invoke,builtin,Builtin.min_,Builtin.min2,td,rE]
    exact bK
  ·cases aw
 ·cases aw
theorem CZ{t:TypeId}{x i:Operand}(hT:lH P T)(hp:xu a w β L I sto ρ)(aw:cr T sto dst (.index t x i) ρ h=some res)(bK:cW res.ob) :
  cX P ⟨dst,.index t x i,ty,pos,after,guard⟩ a β L I w res:=by
 simp only[cr] at aw
 split at aw
 ·rename_i d cs ik n k row hd hx hi
  have Ow:a.eval i = .int ik n:=qk (hp.ev i _ hi)
  split at aw
  ·rename_i len el hk
   obtain⟨un,hu,_,hf⟩:=(hT t d hd).under
   rw[hk] at hf
   obtain⟨hf,tD,Q6⟩:=hf
   subst hf
   split at aw
   ·rename_i de lI
    cases hg:de.agg with
    |false=>simp[hg] at aw
    |true =>
     simp only[hg,cond_true] at aw
     injection aw with aw;subst aw
     obtain⟨h1,bK⟩:=bK.cons
     obtain⟨h2,bK⟩:=bK.cons
     obtain⟨h3,h4⟩:=bK.cons
     have h4:(cs.drop (k*de.size)).take de.size=row:=h4
     subst h1
     have hr:Rd I w (.agg cs) (a.eval x):=hp.ev x _ hx
     generalize yx:a.eval x=v at hr
     cases hr with
     |agg _ us hl ho hh =>
      have hc:bT I w cs us.toList:=⟨by simpa using hl,fun j c u hj Es=>⟨ho j c hj,hh j c u hj (by simpa using Es)⟩⟩
      have My:=hT el de lI
      obtain⟨i,Qx,uq,Ka,W7⟩:=My.run_typeInfo (w:=w)
      have jC:P.cellsOf el=de.size:=by simp[Program.cellsOf,uq,Ka]
      obtain⟨Q7,wN,Q8,_⟩:=My.under
      have Q5:uu P el=true:=by
       unfold uu
       rw[wN]
       show rC Q7=true
       exact Q8.trans hg
      have Q4:yo cs (k*de.size) (P.cellsOf el) (uu P el)=some (.agg row):=by
       unfold yo
       rw[Q5,cond_true,jC,Nat.ble_eq_true_of_le h3,cond_true,h4]
      obtain⟨v,q1,q2⟩:=CN w tD Q6 hc Q4
      refine cX.pure (e := .pv (.agg row)) (cx rfl ?_) q2
      have cQ:(0:Int)≤(k:Int)∧(k:Int)<(len:Int):=by omega
      rw[yx,Ow]
      unfold Instr.index
      simp only[Sem.run_bind,asIntOf,Sem.run_pure,Result.andThen_ok,run_underlying hu]
      rw[if_pos cQ]
      simp only[Sem.run_bind,My.run_sizeOf w,Result.andThen_ok,Int.toNat_natCast]
      exact q1
   ·cases aw
  ·cases aw
 ·rename_i d s ik n k m hd hx hi
  have Ow:a.eval i = .int ik n:=qk (hp.ev i _ hi)
  have td:a.eval x = .string s:=by
   have hr:Rd I w (.str s) (a.eval x):=hp.ev x _ hx
   generalize a.eval x=v at hr
   cases hr;rfl
  split at aw
  ·rename_i hk
   obtain⟨un,hu,_,hf⟩:=(hT t d hd).under
   rw[hk] at hf
   have hf:un = .string:=hf
   subst hf
   injection aw with aw;subst aw
   obtain⟨h1,h2⟩:=bK.cons
   have h2:(s.data.toList[k]?).map (fun b=>(b.toNat:Int))=some m:=h2
   subst h1
   cases hb:s.data.toList[k]? with
   |none=>rw[hb] at h2;cases h2
   |some b =>
    rw[hb] at h2
    simp only[Option.map_some,Option.some.injEq] at h2
    refine cX.pure (e := .pv _) (v := .int .u8 m) (cx rfl ?_) (Rd.int _ _)
    rw[Ow,td]
    have fS:s[k]? = some b:=by
     have cQ:k<s.data.size:=by simpa using(List.getElem?_eq_some_iff.1 hb).1
     have Q9:k<s.size:=cQ
     rw[getElem?_pos s k Q9]
     congr 1
     have h3:=(List.getElem?_eq_some_iff.1 hb).2
     have h4:s.data[k]=b:=by simpa using h3
     exact h4
    unfold Instr.index
    simp only[Sem.run_bind,asIntOf,Sem.run_pure,Result.andThen_ok,run_underlying hu,Int.toNat_natCast]
    rw[if_pos (by omega),fS]
    simp[h2]
  ·cases aw
 ·cases aw
theorem yB{fn:Fn}{first cap:Array Operand}(hp:xu a w β L I sto ρ)(aw:cr T sto dst (.makeFunc fn first cap) ρ h=some res) :
  cX P ⟨dst,.makeFunc fn first cap,ty,pos,after,guard⟩ a β L I w res:=by
 simp only[cr] at aw
 split at aw
 ·rename_i f x h1 h2
  have Ox:first = #[]:=by apply Array.ext';simpa using h1
  have Oy:=GL h2
  subst Ox;subst Oy
  split at aw
  ·rename_i r hx
   rw[cz aw]
   obtain⟨hl,b,hb,hv⟩:=hp.ev x _ hx
   refine cX.pure (e := .mM f r) (v := .func (.func f) #[] #[.pointer (some ⟨b,0,none⟩)]) ?_ ⟨hl,b,hb,rfl⟩
   simp[execOp,Instr.makeFunc,hv]
  ·cases aw
 ·rename_i f h1 h2
  have Ox:first = #[]:=by apply Array.ext';simpa using h1
  have Oy:cap = #[]:=by apply Array.ext';simpa using h2
  subst Ox;subst Oy
  rw[cz aw]
  refine cX.pure (e := .pv _) (v := .func (.func f) #[] #[]) ?_ (Rd.fn _)
  simp[execOp,Instr.makeFunc]
 ·cases aw
theorem wO(hT:lH P T)(hp:xu a w β L I sto ρ){o:Oper}(aw:cr T sto o.dst o.op ρ h=some res)(bK:cW res.ob):cX P o a β L I w res:=by
 obtain⟨dst,op,ty,pos,after,guard⟩:=o
 cases op
 case move x=>exact Ey hp aw
 case makeFunc fn f1 cap=>exact yB hp aw
 case assign x=>exact BF hp aw
 case pick c x y=>exact Ez hp aw bK
 case alloc t=>exact CR hT hp aw
 case box t x=>exact GG hp aw
 case build t ps=>exact CS hT hp aw
 case buildSlice t n ps=>exact vH hT hp aw bK
 case load t x=>exact EA hT hp aw bK
 case nilCheck x=>exact yz hp aw
 case binOp op t x y yt=>exact CU hT hp aw bK
 case unOp op t x=>exact EC hp aw bK
 case convert s t x=>exact Ax hT hp aw bK
 case makeInterface t x=>exact sR hT hp aw
 case makeSlice t x y=>exact xv hT hp aw bK
 case slice t x lo hi mx=>exact CW hT hp aw bK
 case fieldAddr t x f=>exact xw hT hp aw
 case field t x f=>exact CX hT hp aw
 case indexAddr t x i=>exact xx hT hp aw bK
 case index t x i=>exact CZ hT hp aw bK
 case extract x i=>exact Ay hp aw
 case typeAssert x xt t ok=>exact vK hT hp aw
 case call c=>exact EE hT hp aw bK
 all_goals (exfalso;simp[cr] at aw)
end
end Go.Proofs.YtfjfekodeplcoaaGreat.Sym
