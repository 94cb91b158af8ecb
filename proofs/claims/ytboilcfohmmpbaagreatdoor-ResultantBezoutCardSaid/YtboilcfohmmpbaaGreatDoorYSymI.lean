/- Bezout and Accepts of the program answer as the reference does. -/
import Derived.Test.YtboilcfohmmpbaaGreatDoorYSymH
namespace Go.Proofs.YtboilcfohmmpbaaGreatDoor.Sym
open Go Go.RowKit
section
variable {P:Program} {T:Tab} {a:Act} {w:World} {β:Nat→Option Nat} {L I:Nat→Prop} {sto:Sto} {ρ:Operand→Option EV} {h:Hint} {res:OpRes}
variable {dst:Option Tmp} {ty:TypeId} {pos:String} {after:Array Edge} {guard:Option (Nat×Bool)}
theorem struct_field{t:TypeId}{d:TD}{fs:List (Nat×Nat×Bool)}{f off size:Nat}{agg:Bool}(hd:TDok P t d)(hk:d.kind = .struct fs)(hf:fs[f]? = some (off,size,agg)) :
  ∃ff fl,P.underlying t=some (.struct ff)∧ff[f]? = some fl∧fl.offset=off∧P.cellsOf fl.type=size∧aggOf P fl.type=agg∧(P.info? fl.type).isSome=true∧(P.underlying fl.type).isSome=true:=by
 obtain⟨u,hu,_,hff⟩:=hd.under
 rw[hk] at hff
 obtain⟨ff,rfl,h1,h2⟩:=hff
 rw[←h1,List.getElem?_map] at hf
 cases hx:ff.toList[f]? with
 |none=>rw[hx] at hf;cases hf
 |some fl =>
  rw[hx] at hf
  simp only[Option.map_some,Option.some.injEq,Prod.mk.injEq] at hf
  have hm:fl∈ff:=by simpa using List.mem_of_getElem? hx
  exact⟨ff,fl,hu,by simpa using hx,hf.1,hf.2.1,hf.2.2,h2 fl hm⟩
theorem opRun_fieldAddr{t:TypeId}{x:Operand}{f:Nat}(hT:TOk P T)(hp:Pre a w β L I sto ρ)(hrun:opRun T sto dst (.fieldAddr t x f) ρ h=some res) :
  Does P ⟨dst,.fieldAddr t x f,ty,pos,after,guard⟩ a β L I w res:=by
 simp only[opRun] at hrun
 split at hrun
 ·rename_i d e hd hx
  split at hrun
  ·rename_i fs hk
   split at hrun
   ·rename_i off size agg hf
    obtain⟨ff,fl,hu,hfl,hoff,hsz,_,hin,_⟩:=struct_field (hT t d hd) hk hf
    cases hs:Nat.ble 1 size with
    |false=>simp[hs] at hrun
    |true =>
     simp only[hs,cond_true] at hrun
     have hs':1≤size:=Nat.le_of_ble_eq_true hs
     have exec:∀b o,a.eval x = .pointer (some ⟨b,o,none⟩)→(Instr.fieldAt t (a.eval x) f).run P w = .ok (.pointer (some ⟨b,o+off,none⟩)) w:=by
      intro b o hv
      obtain⟨i,hi⟩:=Option.isSome_iff_exists.1 hin
      have hsize:(sizeOf fl.type).run P w = .ok (P.cellsOf fl.type) w:=by simp[sizeOf,typeInfo,hi,Program.cellsOf]
      rw[hv]
      unfold Instr.fieldAt
      simp only[Sem.run_bind,run_underlying hu,Result.andThen_ok,hfl,Instr.sureAddr,Sem.run_pure,fieldPlace,hsize]
      rw[if_neg (by omega)]
      simp only[Sem.run_pure,Result.andThen_ok,add_addr,hoff]
     split at hrun
     ·rename_i r o
      rw[pure1_eq hrun]
      obtain⟨hL,b,hb,hv⟩:=hp.ev x _ hx
      exact Does.pure (e := .ptr _ _) (exec_ok rfl (exec _ _ hv)) ⟨hL,b,hb,rfl⟩
     ·rename_i cs
      rw[pure1_eq hrun]
      obtain⟨b,o,hv,hb,hc⟩:=hp.ev x _ hx
      refine Does.pure (e := .cptr _) (exec_ok rfl (exec _ _ hv)) ⟨b,o+off,rfl,hb,fun j y hy => ?_⟩
      rw[List.getElem?_drop] at hy
      have:=hc _ y hy
      rw[Nat.add_assoc]
      exact this
     ·rename_i r o
      rw[pure1_eq hrun]
      obtain⟨hL,b,hb,hv⟩:=hp.ev x _ hx
      exact Does.pure (e := .mptr _ _) (exec_ok rfl (exec _ _ hv)) ⟨hL,b,hb,rfl⟩
     ·cases hrun
   ·cases hrun
  ·cases hrun
 ·cases hrun
theorem opRun_field{t:TypeId}{x:Operand}{f:Nat}(hT:TOk P T)(hp:Pre a w β L I sto ρ)(hrun:opRun T sto dst (.field t x f) ρ h=some res) :
  Does P ⟨dst,.field t x f,ty,pos,after,guard⟩ a β L I w res:=by
 simp only[opRun] at hrun
 split at hrun
 ·rename_i d cs hd hx
  split at hrun
  ·rename_i fs hk
   split at hrun
   ·rename_i off size agg hf
    split at hrun
    ·rename_i p hpt
     rw[pure1_eq hrun]
     obtain⟨ff,fl,hu,hfl,hoff,hsz,hag,hin,hun⟩:=struct_field (hT t d hd) hk hf
     have hr:Rd I w (.agg cs) (a.eval x):=hp.ev x _ hx
     generalize hev:a.eval x=v at hr
     cases hr with
     |agg _ us hl ho hh =>
      have hc:RdCells I w cs us.toList:=⟨by simpa using hl,fun j c u hj hu'=>⟨ho j c hj,hh j c u hj (by simpa using hu')⟩⟩
      subst hoff;subst hsz;subst hag
      obtain⟨v,h1,h2⟩:=run_part w hin hun hc hpt
      refine Does.pure (e := .pv p) (exec_ok rfl ?_) h2
      rw[hev]
      unfold Instr.field
      simp only[Sem.run_bind,run_underlying hu,Result.andThen_ok,hfl,asAgg,Sem.run_pure]
      exact h1
    ·cases hrun
   ·cases hrun
  ·cases hrun
 ·cases hrun
theorem opRun_indexAddr{t:TypeId}{x i:Operand}(hT:TOk P T)(hp:Pre a w β L I sto ρ)(hrun:opRun T sto dst (.indexAddr t x i) ρ h=some res)(hob:Alls res.ob) :
  Does P ⟨dst,.indexAddr t x i,ty,pos,after,guard⟩ a β L I w res:=by
 simp only[opRun] at hrun
 split at hrun
 ·rename_i d e ik n hd hx hi
  have hvi:a.eval i = .int ik n:=rd_int (hp.ev i _ hi)
  split at hrun
  ·rename_i el hk
   obtain⟨un,hu,_,hf⟩:=(hT t d hd).under
   rw[hk] at hf
   have hf:un = .slice el:=hf
   subst hf
   split at hrun
   ·rename_i de hde
    have exec:∀(b o len c k:Nat),a.eval x = .slice (some ⟨b,o,none⟩) len c→n=(k:Int)→k<len→(Instr.indexAt t (a.eval x) (a.eval i)).run P w = .ok (.pointer (some ⟨b,o+k*de.size,none⟩)) w:=by
     intro b o len c k hv hn hk
     subst hn
     have hin:(0:Int)≤(k:Int)∧(k:Int)<(len:Int):=by omega
     rw[hv,hvi]
     unfold Instr.indexAt
     simp only[Sem.run_bind,asIntOf,Sem.run_pure,Result.andThen_ok,run_underlying hu]
     have htiny:(if len≤1 then false else false:Bool)=false:=by split<;>rfl
     simp only[hin,and_self,if_true,Sem.run_bind,(hT el de hde).run_sizeOf w,Result.andThen_ok,Sem.run_pure,Int.toNat_natCast,add_addr]
    split at hrun
    ·rename_i r off len sz k
     cases hsz:Nat.beq sz de.size with
     |false=>simp[hsz] at hrun
     |true =>
      simp only[hsz,cond_true] at hrun
      have hsz':sz=de.size:=Nat.eq_of_beq_eq_true hsz
      injection hrun with hrun;subst hrun
      obtain⟨h1,h2⟩:=hob.cons
      have h2:k<len:=h2
      obtain⟨hL,⟨_,hl0,_⟩|⟨b,c,hb,hv,_⟩⟩:=hp.ev x _ hx
      ·omega
      ·exact Does.pure (e := .ptr _ _) (exec_ok rfl (exec _ _ _ _ k hv h1 h2)) ⟨hL,b,hb,by rw[hsz']⟩
    ·rename_i jj len sz k
     cases hsz:Nat.beq sz de.size with
     |false=>simp[hsz] at hrun
     |true =>
      simp only[hsz,cond_true] at hrun
      have hsz':sz=de.size:=Nat.eq_of_beq_eq_true hsz
      injection hrun with hrun;subst hrun
      obtain⟨h1,h2⟩:=hob.cons
      have h2:k<len:=h2
      obtain⟨hL,⟨_,hl0,_⟩|⟨b,c,hb,hv,_⟩⟩:=hp.ev x _ hx
      ·omega
      ·exact Does.pure (e := .mptr _ _) (exec_ok rfl (exec _ _ _ _ k hv h1 h2)) ⟨hL,b,hb,by rw[hsz',Nat.zero_add]⟩
    ·rename_i xs k row
     injection hrun with hrun;subst hrun
     obtain⟨h1,hob⟩:=hob.cons
     obtain⟨h2,h3⟩:=hob.cons
     have h3:row.length=de.size:=h3
     have hr:Rd I w (.list xs) (a.eval x):=hp.ev x _ hx
     have hlt:k<xs.length:=(List.getElem?_eq_some_iff.1 h2).1
     generalize hev:a.eval x=v at hr
     cases hr with
     |nil=>simp at hlt
     |list _ b o c s f hc hb hs ho hh =>
      have hss:s=de.size:=by rw[←hs k row h2,h3]
      subst hss
      refine Does.pure (e := .cptr _) (exec_ok rfl (exec b o _ c k hev h1 hlt)) ⟨b,_,rfl,hb,fun j y hy => ?_⟩
      have g:=ho k j row y h2 hy
      refine⟨g.1,f k j,?_,hh k j row y h2 hy⟩
      rw[Nat.add_assoc]
      exact g.2
    ·cases hrun
   ·cases hrun
  ·rename_i len el hk
   obtain⟨un,hu,_,hf⟩:=(hT t d hd).under
   rw[hk] at hf
   obtain⟨hf,_,_⟩:=hf
   subst hf
   split at hrun
   ·rename_i de hde
    split at hrun
    ·rename_i r off k
     injection hrun with hrun;subst hrun
     obtain⟨h1,h2⟩:=hob.cons
     have h2:k<len:=h2
     obtain⟨hL,b,hb,hv⟩:=hp.ev x _ hx
     refine Does.pure (e := .ptr _ _) (v := .pointer (some ⟨b,off+k*de.size,none⟩)) (exec_ok rfl ?_) ⟨hL,b,hb,rfl⟩
     subst h1
     have hin:(0:Int)≤(k:Int)∧(k:Int)<(len:Int):=by omega
     rw[hv,hvi]
     unfold Instr.indexAt
     simp only[Sem.run_bind,asIntOf,Sem.run_pure,Result.andThen_ok,run_underlying hu,Instr.sureAddr]
     simp only[hin,and_self,if_true,Sem.run_bind,(hT el de hde).run_sizeOf w,Result.andThen_ok,Sem.run_pure,Int.toNat_natCast,add_addr]
    ·cases hrun
   ·cases hrun
  ·cases hrun
 ·cases hrun
theorem opRun_extract{x:Operand}{i:Nat}(hp:Pre a w β L I sto ρ)(hrun:opRun T sto dst (.extract x i) ρ h=some res) :
  Does P ⟨dst,.extract x i,ty,pos,after,guard⟩ a β L I w res:=by
 simp only[opRun] at hrun
 split at hrun
 ·rename_i vs hx
  split at hrun
  ·rename_i p hpi
   rw[pure1_eq hrun]
   have hr:Rd I w (.tup vs) (a.eval x):=hp.ev x _ hx
   generalize hev:a.eval x=v at hr
   cases hr with
   |tup _ us hl hh =>
    have hi:i<us.size:=by rw[←hl];exact(List.getElem?_eq_some_iff.1 hpi).1
    have hu:us[i]? = some us[i]:=Array.getElem?_eq_getElem hi
    refine Does.pure (e := .pv p) (exec_ok rfl ?_) (hh i p _ hpi hu)
    rw[hev]
    simp[Instr.extract,hu]
  ·cases hrun
 ·rename_i r off len sz ps hx
  obtain⟨us,hev,hsz,⟨u,hu0,hr0⟩,hh⟩:=hp.ev x _ hx
  cases i with
  |zero =>
   rw[pure1_eq hrun]
   exact Does.pure (e := .row r off len sz) (exec_ok rfl (by rw[hev];simp[Instr.extract,hu0])) hr0
  |succ j =>
   simp only at hrun
   split at hrun
   ·rename_i p hpj
    rw[pure1_eq hrun]
    have hi:j+1<us.size:=by have:=(List.getElem?_eq_some_iff.1 hpj).1;omega
    have hu:us[j+1]? = some us[j+1]:=Array.getElem?_eq_getElem hi
    exact Does.pure (e := .pv p) (exec_ok rfl (by rw[hev];simp[Instr.extract,hu])) (hh j p _ hpj hu)
   ·cases hrun
 ·cases hrun
theorem opRun_typeAssert{x:Operand}{xt t:TypeId}{ok:Bool}(hT:TOk P T)(hp:Pre a w β L I sto ρ)(hrun:opRun T sto dst (.typeAssert x xt t ok) ρ h=some res) :
  Does P ⟨dst,.typeAssert x xt t ok,ty,pos,after,guard⟩ a β L I w res:=by
 cases ok with
 |false=>simp[opRun] at hrun
 |true =>
  simp only[opRun] at hrun
  split at hrun
  ·rename_i d u p hd hx
   split at hrun
   ·rename_i k hk
    cases hb:Nat.beq u t with
    |false=>simp[hb] at hrun
    |true =>
     simp only[hb,cond_true] at hrun
     have hut:u=t:=Nat.eq_of_beq_eq_true hb
     subst hut
     rw[pure1_eq hrun]
     obtain⟨un,hu,_,hf⟩:=(hT u d hd).under
     rw[hk] at hf
     have hf:un = .int k:=hf
     subst hf
     have hr:Rd I w (.iface u p) (a.eval x):=hp.ev x _ hx
     generalize hev:a.eval x=v at hr
     cases hr with
     |iface _ _ v hv =>
      refine Does.pure (e := .pv _) (v := .tuple #[v,.bool true]) (exec_ok rfl ?_) (Rd.tup _ _ rfl (fun j c y hc hy => ?_))
      ·rw[hev]
       simp[Instr.typeAssert,run_underlying hu]
      ·match j,hc,hy with
       |0,hc,hy=>simp at hc hy;subst hc hy;exact hv
       |1,hc,hy=>simp at hc hy;subst hc hy;exact .bool _
       |j+2,hc,hy=>simp at hc
   ·cases hrun
  ·cases hrun
theorem arr1{α:Type}{xs:Array α}{x:α}(h:xs.toList=[x]):xs = #[x]:=by
 apply Array.ext';simpa using h
theorem arr2{α:Type}{xs:Array α}{x y:α}(h:xs.toList=[x,y]):xs = #[x,y]:=by
 apply Array.ext';simpa using h
theorem opRun_call{c:Call}(hT:TOk P T)(hp:Pre a w β L I sto ρ)(hrun:opRun T sto dst (.call c) ρ h=some res)(hob:Alls res.ob) :
  Does P ⟨dst,.call c,ty,pos,after,guard⟩ a β L I w res:=by
 obtain⟨cl,args,ats⟩:=c
 simp only[opRun] at hrun
 split at hrun
 ·rename_i x t hargs hats
  have hargs':=arr1 hargs
  have hats':=arr1 hats
  subst hargs';subst hats'
  split at hrun
  ·rename_i d e hd hx
   split at hrun
   ·rename_i el n hk hn
    obtain⟨un,hu,_,hf⟩:=(hT t d hd).under
    rw[hk] at hf
    have hf:un = .slice el:=hf
    subst hf
    have hv:∃ao c,a.eval x = .slice ao n c:=by
     have he:=hp.ev x e hx
     cases e with
     |pv p =>
      cases p<;>simp[lenOfEV] at hn
      subst hn
      generalize a.eval x=v at he
      cases he with
      |nil ao c=>exact⟨ao,c,rfl⟩
      |list _ b o c s f=>exact⟨_,c,rfl⟩
     |row r off len sz =>
      simp[lenOfEV] at hn
      subst hn
      obtain⟨_,⟨_,rfl,hv⟩|⟨b,c,_,hv,_⟩⟩:=he
      ·exact⟨_,_,hv⟩
      ·exact⟨_,c,hv⟩
     |mrow r len sz =>
      simp[lenOfEV] at hn
      subst hn
      obtain⟨_,⟨_,rfl,hv⟩|⟨b,c,_,hv,_⟩⟩:=he
      ·exact⟨_,_,hv⟩
      ·exact⟨_,c,hv⟩
     |mptr _ _=>simp[lenOfEV] at hn
     |ptr _ _=>simp[lenOfEV] at hn
     |cptr _=>simp[lenOfEV] at hn
     |dead=>simp[lenOfEV] at hn
     |rowT _ _ _ _ _=>simp[lenOfEV] at hn
     |clo _ _=>simp[lenOfEV] at hn
    obtain⟨ao,c,hv⟩:=hv
    have exec:(execOp a.eval ⟨dst,.call ⟨.builtin .len,#[x],#[t]⟩,ty,pos,after,guard⟩).run P w = .ok (.value (.int .i64 n)) w:=by
     simp[execOp,resolve,invoke,builtin,Builtin.len_,hv,run_underlying hu,goInt]
    split at hrun
    ·rename_i m
     injection hrun with hrun;subst hrun
     have hm:(n:Int)=m:=hob
     rw[hm] at exec
     exact Does.pure (e := .pv _) exec (Rd.int _ _)
    ·rw[pure1_eq hrun]
     exact Does.pure (e := .pv _) exec (Rd.int _ _)
   ·rename_i hk
    obtain⟨un,hu,_,hf⟩:=(hT t d hd).under
    rw[hk] at hf
    have hf:un = .string:=hf
    subst hf
    split at hrun
    ·rename_i s m
     injection hrun with hrun;subst hrun
     have hv:a.eval x = .string s:=by
      have he:Rd I w (.str s) (a.eval x):=hp.ev x _ hx
      generalize a.eval x=v at he
      cases he;rfl
     have hm:(s.size:Int)=m:=hob
     have exec:(execOp a.eval ⟨dst,.call ⟨.builtin .len,#[x],#[t]⟩,ty,pos,after,guard⟩).run P w = .ok (.value (.int .i64 s.size)) w:=by
      simp[execOp,resolve,invoke,builtin,Builtin.len_,hv,run_underlying hu,goInt]
     rw[hm] at exec
     exact Does.pure (e := .pv _) exec (Rd.int _ _)
    ·cases hrun
   ·cases hrun
  ·cases hrun
 ·rename_i x y hargs
  have hargs':=arr2 hargs
  subst hargs'
  split at hrun
  ·rename_i k m k' m' k'' r hx hy
   cases hkk:(decide (k=k')&&decide (k=k'')) with
   |false=>simp[hkk] at hrun
   |true =>
    simp only[hkk,cond_true] at hrun
    simp only[Bool.and_eq_true,decide_eq_true_eq] at hkk
    obtain⟨rfl,rfl⟩:=hkk
    injection hrun with hrun;subst hrun
    have hvx:a.eval x = .int k m:=rd_int (hp.ev x _ hx)
    have hvy:a.eval y = .int k m':=rd_int (hp.ev y _ hy)
    have hob:(if m'>m then m' else m)=r:=hob
    refine Does.pure (e := .pv _) (v := .int k r) ?_ (Rd.int _ _)
    simp[execOp,resolve,invoke,builtin,Builtin.max_,Builtin.max2,hvx,hvy]
    exact hob
  ·cases hrun
 ·rename_i x y hargs
  have hargs':=arr2 hargs
  subst hargs'
  split at hrun
  ·rename_i k m k' m' k'' r hx hy
   cases hkk:(decide (k=k')&&decide (k=k'')) with
   |false=>simp[hkk] at hrun
   |true =>
    simp only[hkk,cond_true] at hrun
    simp only[Bool.and_eq_true,decide_eq_true_eq] at hkk
    obtain⟨rfl,rfl⟩:=hkk
    injection hrun with hrun;subst hrun
    have hvx:a.eval x = .int k m:=rd_int (hp.ev x _ hx)
    have hvy:a.eval y = .int k m':=rd_int (hp.ev y _ hy)
    have hob:(if m'<m then m' else m)=r:=hob
    refine Does.pure (e := .pv _) (v := .int k r) ?_ (Rd.int _ _)
    simp[execOp,resolve,invoke,builtin,Builtin.min_,Builtin.min2,hvx,hvy]
    exact hob
  ·cases hrun
 ·cases hrun
theorem opRun_index{t:TypeId}{x i:Operand}(hT:TOk P T)(hp:Pre a w β L I sto ρ)(hrun:opRun T sto dst (.index t x i) ρ h=some res)(hob:Alls res.ob) :
  Does P ⟨dst,.index t x i,ty,pos,after,guard⟩ a β L I w res:=by
 simp only[opRun] at hrun
 split at hrun
 ·rename_i d cs ik n k row hd hx hi
  have hvi:a.eval i = .int ik n:=rd_int (hp.ev i _ hi)
  split at hrun
  ·rename_i len el hk
   obtain⟨un,hu,_,hf⟩:=(hT t d hd).under
   rw[hk] at hf
   obtain⟨hf,hin,hun⟩:=hf
   subst hf
   split at hrun
   ·rename_i de hde
    cases hg:de.agg with
    |false=>simp[hg] at hrun
    |true =>
     simp only[hg,cond_true] at hrun
     injection hrun with hrun;subst hrun
     obtain⟨h1,hob⟩:=hob.cons
     obtain⟨h2,hob⟩:=hob.cons
     obtain⟨h3,h4⟩:=hob.cons
     have h4:(cs.drop (k*de.size)).take de.size=row:=h4
     subst h1
     have hr:Rd I w (.agg cs) (a.eval x):=hp.ev x _ hx
     generalize hev:a.eval x=v at hr
     cases hr with
     |agg _ us hl ho hh =>
      have hc:RdCells I w cs us.toList:=⟨by simpa using hl,fun j c u hj hu'=>⟨ho j c hj,hh j c u hj (by simpa using hu')⟩⟩
      have hdo:=hT el de hde
      obtain⟨i,hi1,hi2,hi3,hi4⟩:=hdo.run_typeInfo (w:=w)
      have hsz:P.cellsOf el=de.size:=by simp[Program.cellsOf,hi2,hi3]
      obtain⟨un2,hu2,hag2,_⟩:=hdo.under
      have hag:aggOf P el=true:=by
       unfold aggOf
       rw[hu2]
       show isAggD un2=true
       exact hag2.trans hg
      have hpt:partPV cs (k*de.size) (P.cellsOf el) (aggOf P el)=some (.agg row):=by
       unfold partPV
       rw[hag,cond_true,hsz,Nat.ble_eq_true_of_le h3,cond_true,h4]
      obtain⟨v,q1,q2⟩:=run_part w hin hun hc hpt
      refine Does.pure (e := .pv (.agg row)) (exec_ok rfl ?_) q2
      have hlt:(0:Int)≤(k:Int)∧(k:Int)<(len:Int):=by omega
      rw[hev,hvi]
      unfold Instr.index
      simp only[Sem.run_bind,asIntOf,Sem.run_pure,Result.andThen_ok,run_underlying hu]
      rw[if_pos hlt]
      simp only[Sem.run_bind,hdo.run_sizeOf w,Result.andThen_ok,Int.toNat_natCast]
      exact q1
   ·cases hrun
  ·cases hrun
 ·rename_i d s ik n k m hd hx hi
  have hvi:a.eval i = .int ik n:=rd_int (hp.ev i _ hi)
  have hvx:a.eval x = .string s:=by
   have hr:Rd I w (.str s) (a.eval x):=hp.ev x _ hx
   generalize a.eval x=v at hr
   cases hr;rfl
  split at hrun
  ·rename_i hk
   obtain⟨un,hu,_,hf⟩:=(hT t d hd).under
   rw[hk] at hf
   have hf:un = .string:=hf
   subst hf
   injection hrun with hrun;subst hrun
   obtain⟨h1,h2⟩:=hob.cons
   have h2:(s.data.toList[k]?).map (fun b=>(b.toNat:Int))=some m:=h2
   subst h1
   cases hb:s.data.toList[k]? with
   |none=>rw[hb] at h2;cases h2
   |some b =>
    rw[hb] at h2
    simp only[Option.map_some,Option.some.injEq] at h2
    refine Does.pure (e := .pv _) (v := .int .u8 m) (exec_ok rfl ?_) (Rd.int _ _)
    rw[hvi,hvx]
    have hget:s[k]? = some b:=by
     have hlt:k<s.data.size:=by simpa using(List.getElem?_eq_some_iff.1 hb).1
     have hlt':k<s.size:=hlt
     rw[getElem?_pos s k hlt']
     congr 1
     have h3:=(List.getElem?_eq_some_iff.1 hb).2
     have h4:s.data[k]=b:=by simpa using h3
     exact h4
    unfold Instr.index
    simp only[Sem.run_bind,asIntOf,Sem.run_pure,Result.andThen_ok,run_underlying hu,Int.toNat_natCast]
    rw[if_pos (by omega),hget]
    simp[h2]
  ·cases hrun
 ·cases hrun
theorem opRun_makeFunc{fn:Fn}{first cap:Array Operand}(hp:Pre a w β L I sto ρ)(hrun:opRun T sto dst (.makeFunc fn first cap) ρ h=some res) :
  Does P ⟨dst,.makeFunc fn first cap,ty,pos,after,guard⟩ a β L I w res:=by
 simp only[opRun] at hrun
 split at hrun
 ·rename_i f x h1 h2
  have h1':first = #[]:=by apply Array.ext';simpa using h1
  have h2':=arr1 h2
  subst h1';subst h2'
  split at hrun
  ·rename_i r hx
   rw[pure1_eq hrun]
   obtain⟨hl,b,hb,hv⟩:=hp.ev x _ hx
   refine Does.pure (e := .clo f r) (v := .func (.func f) #[] #[.pointer (some ⟨b,0,none⟩)]) ?_ ⟨hl,b,hb,rfl⟩
   simp[execOp,Instr.makeFunc,hv]
  ·cases hrun
 ·rename_i f h1 h2
  have h1':first = #[]:=by apply Array.ext';simpa using h1
  have h2':cap = #[]:=by apply Array.ext';simpa using h2
  subst h1';subst h2'
  rw[pure1_eq hrun]
  refine Does.pure (e := .pv _) (v := .func (.func f) #[] #[]) ?_ (Rd.fn _)
  simp[execOp,Instr.makeFunc]
 ·cases hrun
theorem opRun_sound(hT:TOk P T)(hp:Pre a w β L I sto ρ){o:Oper}(hrun:opRun T sto o.dst o.op ρ h=some res)(hob:Alls res.ob):Does P o a β L I w res:=by
 obtain⟨dst,op,ty,pos,after,guard⟩:=o
 cases op
 case move x=>exact opRun_move hp hrun
 case makeFunc fn f1 cap=>exact opRun_makeFunc hp hrun
 case assign x=>exact opRun_assign hp hrun
 case pick c x y=>exact opRun_pick hp hrun hob
 case alloc t=>exact opRun_alloc hT hp hrun
 case box t x=>exact opRun_box hp hrun
 case build t ps=>exact opRun_build hT hp hrun
 case buildSlice t n ps=>exact opRun_buildSlice hT hp hrun hob
 case load t x=>exact opRun_load hT hp hrun hob
 case nilCheck x=>exact opRun_nilCheck hp hrun
 case binOp op t x y yt=>exact opRun_binOp hT hp hrun hob
 case unOp op t x=>exact opRun_unOp hp hrun hob
 case convert s t x=>exact opRun_convert hT hp hrun hob
 case makeInterface t x=>exact opRun_makeInterface hT hp hrun
 case makeSlice t x y=>exact opRun_makeSlice hT hp hrun hob
 case slice t x lo hi mx=>exact opRun_slice hT hp hrun hob
 case fieldAddr t x f=>exact opRun_fieldAddr hT hp hrun
 case field t x f=>exact opRun_field hT hp hrun
 case indexAddr t x i=>exact opRun_indexAddr hT hp hrun hob
 case index t x i=>exact opRun_index hT hp hrun hob
 case extract x i=>exact opRun_extract hp hrun
 case typeAssert x xt t ok=>exact opRun_typeAssert hT hp hrun
 case call c=>exact opRun_call hT hp hrun hob
 all_goals (exfalso;simp[opRun] at hrun)
end
end Go.Proofs.YtboilcfohmmpbaaGreatDoor.Sym
