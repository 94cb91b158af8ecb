/- Lemmas for the statements of this seat. -/
import Derived.Test.YtllmkadmohkbfaaGreatDoorVSymH
namespace Go.Proofs.YtllmkadmohkbfaaGreatDoor.Sym
open Go Go.RowKit
section
variable {P:Program} {T:kL} {a:Act} {w:World} {β:Nat→Option Nat} {L I:Nat→Prop} {aG:aS} {ρ:Operand→Option EV} {h:Hint} {res:nZ}
variable {dst:Option Tmp} {ty:TypeId} {pos:String} {after:Array Edge} {guard:Option (Nat×Bool)}
theorem rF{t:TypeId}{d:TD}{fs:List (Nat×Nat×Bool)}{f off size:Nat}{agg:Bool}(hd:qN P t d)(hk:d.kind = .struct fs)(hf:fs[f]? = some (off,size,agg)) :
  ∃ff fl,P.underlying t=some (.struct ff)∧ff[f]? = some fl∧fl.offset=off∧P.cellsOf fl.type=size∧wb P fl.type=agg∧(P.info? fl.type).isSome=true∧(P.underlying fl.type).isSome=true:=by
 obtain⟨u,hu,_,K9⟩:=hd.under
 rw[hk] at K9
 obtain⟨ff,rfl,h1,h2⟩:=K9
 rw[←h1,List.getElem?_map] at hf
 cases hx:ff.toList[f]? with
 |none=>rw[hx] at hf;cases hf
 |some fl =>
  rw[hx] at hf
  simp only[Option.map_some,Option.some.injEq,Prod.mk.injEq] at hf
  have hm:fl∈ff:=by simpa using List.mem_of_getElem? hx
  exact⟨ff,fl,hu,by simpa using hx,hf.1,hf.2.1,hf.2.2,h2 fl hm⟩
theorem zI{t:TypeId}{x:Operand}{f:Nat}(hT:nM P T)(hp:zG a w β L I aG ρ)(aq:cf T aG dst (.fieldAddr t x f) ρ h=some res) :
  dq P ⟨dst,.fieldAddr t x f,ty,pos,after,guard⟩ a β L I w res:=by
 simp only[cf] at aq
 split at aq
 ·rename_i d e hd hx
  split at aq
  ·rename_i fs hk
   split at aq
   ·rename_i off size agg hf
    obtain⟨ff,fl,hu,Ff,Ly,lI,_,AL,_⟩:=rF (hT t d hd) hk hf
    cases hs:Nat.ble 1 size with
    |false=>simp[hs] at aq
    |true =>
     simp only[hs,cond_true] at aq
     have Kk:1≤size:=Nat.le_of_ble_eq_true hs
     have exec:∀b o,a.eval x = .pointer (some ⟨b,o,none⟩)→(Instr.fieldAt t (a.eval x) f).run P w = .ok (.pointer (some ⟨b,o+off,none⟩)) w:=by
      intro b o hv
      obtain⟨i,hi⟩:=Option.isSome_iff_exists.1 AL
      have wg:(sizeOf fl.type).run P w = .ok (P.cellsOf fl.type) w:=by simp[sizeOf,typeInfo,hi,Program.cellsOf]
      rw[hv]
      unfold Instr.fieldAt
      simp only[Sem.run_bind,run_underlying hu,Result.andThen_ok,Ff,Instr.sureAddr,Sem.run_pure,fieldPlace,wg]
      rw[if_neg (by omega)]
      simp only[Sem.run_pure,Result.andThen_ok,iZ,Ly]
     split at aq
     ·rename_i r o
      rw[cJ aq]
      obtain⟨hL,b,hb,hv⟩:=hp.ev x _ hx
      exact dq.pure (e := .ptr _ _) (cM rfl (exec _ _ hv)) ⟨hL,b,hb,rfl⟩
     ·rename_i cs
      rw[cJ aq]
      obtain⟨b,o,hv,hb,hc⟩:=hp.ev x _ hx
      refine dq.pure (e := .pz _) (cM rfl (exec _ _ hv)) ⟨b,o+off,rfl,hb,fun j y hy => ?_⟩
      rw[List.getElem?_drop] at hy
      have:=hc _ y hy
      rw[Nat.add_assoc]
      exact this
     ·rename_i r o
      rw[cJ aq]
      obtain⟨hL,b,hb,hv⟩:=hp.ev x _ hx
      exact dq.pure (e := .oA _ _) (cM rfl (exec _ _ hv)) ⟨hL,b,hb,rfl⟩
     ·cases aq
   ·cases aq
  ·cases aq
 ·cases aq
theorem FB{t:TypeId}{x:Operand}{f:Nat}(hT:nM P T)(hp:zG a w β L I aG ρ)(aq:cf T aG dst (.field t x f) ρ h=some res) :
  dq P ⟨dst,.field t x f,ty,pos,after,guard⟩ a β L I w res:=by
 simp only[cf] at aq
 split at aq
 ·rename_i d cs hd hx
  split at aq
  ·rename_i fs hk
   split at aq
   ·rename_i off size agg hf
    split at aq
    ·rename_i p PJ
     rw[cJ aq]
     obtain⟨ff,fl,hu,Ff,Ly,lI,Vy,AL,Vz⟩:=rF (hT t d hd) hk hf
     have hr:Rd I w (.agg cs) (a.eval x):=hp.ev x _ hx
     generalize sO:a.eval x=v at hr
     cases hr with
     |agg _ us hl ho hh =>
      have hc:bV I w cs us.toList:=⟨by simpa using hl,fun j c u hj Lz=>⟨ho j c hj,hh j c u hj (by simpa using Lz)⟩⟩
      subst Ly;subst lI;subst Vy
      obtain⟨v,h1,h2⟩:=Fo w AL Vz hc PJ
      refine dq.pure (e := .pv p) (cM rfl ?_) h2
      rw[sO]
      unfold Instr.field
      simp only[Sem.run_bind,run_underlying hu,Result.andThen_ok,Ff,asAgg,Sem.run_pure]
      exact h1
    ·cases aq
   ·cases aq
  ·cases aq
 ·cases aq
theorem zJ{t:TypeId}{x i:Operand}(hT:nM P T)(hp:zG a w β L I aG ρ)(aq:cf T aG dst (.indexAddr t x i) ρ h=some res)(cr:dP res.ob) :
  dq P ⟨dst,.indexAddr t x i,ty,pos,after,guard⟩ a β L I w res:=by
 simp only[cf] at aq
 split at aq
 ·rename_i d e ik n hd hx hi
  have SJ:a.eval i = .int ik n:=sX (hp.ev i _ hi)
  split at aq
  ·rename_i el hk
   obtain⟨un,hu,_,hf⟩:=(hT t d hd).under
   rw[hk] at hf
   have hf:un = .slice el:=hf
   subst hf
   split at aq
   ·rename_i de oB
    have exec:∀(b o len c k:Nat),a.eval x = .slice (some ⟨b,o,none⟩) len c→n=(k:Int)→k<len→(Instr.indexAt t (a.eval x) (a.eval i)).run P w = .ok (.pointer (some ⟨b,o+k*de.size,none⟩)) w:=by
     intro b o len c k hv hn hk
     subst hn
     have AL:(0:Int)≤(k:Int)∧(k:Int)<(len:Int):=by omega
     rw[hv,SJ]
     unfold Instr.indexAt
     simp only[Sem.run_bind,asIntOf,Sem.run_pure,Result.andThen_ok,run_underlying hu]
     have X5:(if len≤1 then false else false:Bool)=false:=by split<;>rfl
     simp only[AL,and_self,if_true,Sem.run_bind,(hT el de oB).run_sizeOf w,Result.andThen_ok,Sem.run_pure,Int.toNat_natCast,iZ]
    split at aq
    ·rename_i r off len sz k
     cases lI:Nat.beq sz de.size with
     |false=>simp[lI] at aq
     |true =>
      simp only[lI,cond_true] at aq
      have D4:sz=de.size:=Nat.eq_of_beq_eq_true lI
      injection aq with aq;subst aq
      obtain⟨h1,h2⟩:=cr.cons
      have h2:k<len:=h2
      obtain⟨hL,⟨_,FA,_⟩|⟨b,c,hb,hv,_⟩⟩:=hp.ev x _ hx
      ·omega
      ·exact dq.pure (e := .ptr _ _) (cM rfl (exec _ _ _ _ k hv h1 h2)) ⟨hL,b,hb,by rw[D4]⟩
    ·rename_i jj len sz k
     cases lI:Nat.beq sz de.size with
     |false=>simp[lI] at aq
     |true =>
      simp only[lI,cond_true] at aq
      have D4:sz=de.size:=Nat.eq_of_beq_eq_true lI
      injection aq with aq;subst aq
      obtain⟨h1,h2⟩:=cr.cons
      have h2:k<len:=h2
      obtain⟨hL,⟨_,FA,_⟩|⟨b,c,hb,hv,_⟩⟩:=hp.ev x _ hx
      ·omega
      ·exact dq.pure (e := .oA _ _) (cM rfl (exec _ _ _ _ k hv h1 h2)) ⟨hL,b,hb,by rw[D4,Nat.zero_add]⟩
    ·rename_i xs k row
     injection aq with aq;subst aq
     obtain⟨h1,cr⟩:=cr.cons
     obtain⟨h2,h3⟩:=cr.cons
     have h3:row.length=de.size:=h3
     have hr:Rd I w (.list xs) (a.eval x):=hp.ev x _ hx
     have ba:k<xs.length:=(List.getElem?_eq_some_iff.1 h2).1
     generalize sO:a.eval x=v at hr
     cases hr with
     |nil=>simp at ba
     |list _ b o c s f hc hb hs ho hh =>
      have Tc:s=de.size:=by rw[←hs k row h2,h3]
      subst Tc
      refine dq.pure (e := .pz _) (cM rfl (exec b o _ c k sO h1 ba)) ⟨b,_,rfl,hb,fun j y hy => ?_⟩
      have g:=ho k j row y h2 hy
      refine⟨g.1,f k j,?_,hh k j row y h2 hy⟩
      rw[Nat.add_assoc]
      exact g.2
    ·cases aq
   ·cases aq
  ·rename_i len el hk
   obtain⟨un,hu,_,hf⟩:=(hT t d hd).under
   rw[hk] at hf
   obtain⟨hf,_,_⟩:=hf
   subst hf
   split at aq
   ·rename_i de oB
    split at aq
    ·rename_i r off k
     injection aq with aq;subst aq
     obtain⟨h1,h2⟩:=cr.cons
     have h2:k<len:=h2
     obtain⟨hL,b,hb,hv⟩:=hp.ev x _ hx
     refine dq.pure (e := .ptr _ _) (v := .pointer (some ⟨b,off+k*de.size,none⟩)) (cM rfl ?_) ⟨hL,b,hb,rfl⟩
     subst h1
     have AL:(0:Int)≤(k:Int)∧(k:Int)<(len:Int):=by omega
     rw[hv,SJ]
     unfold Instr.indexAt
     simp only[Sem.run_bind,asIntOf,Sem.run_pure,Result.andThen_ok,run_underlying hu,Instr.sureAddr]
     simp only[AL,and_self,if_true,Sem.run_bind,(hT el de oB).run_sizeOf w,Result.andThen_ok,Sem.run_pure,Int.toNat_natCast,iZ]
    ·cases aq
   ·cases aq
  ·cases aq
 ·cases aq
theorem CA{x:Operand}{i:Nat}(hp:zG a w β L I aG ρ)(aq:cf T aG dst (.extract x i) ρ h=some res) :
  dq P ⟨dst,.extract x i,ty,pos,after,guard⟩ a β L I w res:=by
 simp only[cf] at aq
 split at aq
 ·rename_i vs hx
  split at aq
  ·rename_i p X6
   rw[cJ aq]
   have hr:Rd I w (.aB vs) (a.eval x):=hp.ev x _ hx
   generalize sO:a.eval x=v at hr
   cases hr with
   |aB _ us hl hh =>
    have hi:i<us.size:=by rw[←hl];exact(List.getElem?_eq_some_iff.1 X6).1
    have hu:us[i]? = some us[i]:=Array.getElem?_eq_getElem hi
    refine dq.pure (e := .pv p) (cM rfl ?_) (hh i p _ X6 hu)
    rw[sO]
    simp[Instr.extract,hu]
  ·cases aq
 ·rename_i r off len sz ps hx
  obtain⟨us,sO,lI,⟨u,Ol,C3⟩,hh⟩:=hp.ev x _ hx
  cases i with
  |zero =>
   rw[cJ aq]
   exact dq.pure (e := .row r off len sz) (cM rfl (by rw[sO];simp[Instr.extract,Ol])) C3
  |succ j =>
   simp only at aq
   split at aq
   ·rename_i p X7
    rw[cJ aq]
    have hi:j+1<us.size:=by have:=(List.getElem?_eq_some_iff.1 X7).1;omega
    have hu:us[j+1]? = some us[j+1]:=Array.getElem?_eq_getElem hi
    exact dq.pure (e := .pv p) (cM rfl (by rw[sO];simp[Instr.extract,hu])) (hh j p _ X7 hu)
   ·cases aq
 ·cases aq
theorem xF{x:Operand}{xt t:TypeId}{ok:Bool}(hT:nM P T)(hp:zG a w β L I aG ρ)(aq:cf T aG dst (.typeAssert x xt t ok) ρ h=some res) :
  dq P ⟨dst,.typeAssert x xt t ok,ty,pos,after,guard⟩ a β L I w res:=by
 cases ok with
 |false=>simp[cf] at aq
 |true =>
  simp only[cf] at aq
  split at aq
  ·rename_i d u p hd hx
   split at aq
   ·rename_i k hk
    cases hb:Nat.beq u t with
    |false=>simp[hb] at aq
    |true =>
     simp only[hb,cond_true] at aq
     have Zh:u=t:=Nat.eq_of_beq_eq_true hb
     subst Zh
     rw[cJ aq]
     obtain⟨un,hu,_,hf⟩:=(hT u d hd).under
     rw[hk] at hf
     have hf:un = .int k:=hf
     subst hf
     have hr:Rd I w (.iface u p) (a.eval x):=hp.ev x _ hx
     generalize sO:a.eval x=v at hr
     cases hr with
     |iface _ _ v hv =>
      refine dq.pure (e := .pv _) (v := .tuple #[v,.bool true]) (cM rfl ?_) (Rd.aB _ _ rfl (fun j c y hc hy => ?_))
      ·rw[sO]
       simp[Instr.typeAssert,run_underlying hu]
      ·match j,hc,hy with
       |0,hc,hy=>simp at hc hy;subst hc hy;exact hv
       |1,hc,hy=>simp at hc hy;subst hc hy;exact .bool _
       |j+2,hc,hy=>simp at hc
   ·cases aq
  ·cases aq
theorem Om{α:Type}{xs:Array α}{x:α}(h:xs.toList=[x]):xs = #[x]:=by
 apply Array.ext';simpa using h
theorem zK{α:Type}{xs:Array α}{x y:α}(h:xs.toList=[x,y]):xs = #[x,y]:=by
 apply Array.ext';simpa using h
theorem HG{c:Call}(hT:nM P T)(hp:zG a w β L I aG ρ)(aq:cf T aG dst (.call c) ρ h=some res)(cr:dP res.ob) :
  dq P ⟨dst,.call c,ty,pos,after,guard⟩ a β L I w res:=by
 obtain⟨cl,args,LA⟩:=c
 simp only[cf] at aq
 split at aq
 ·rename_i x t kg HH
  have mF:=Om kg
  have wh:=Om HH
  subst mF;subst wh
  split at aq
  ·rename_i d e hd hx
   split at aq
   ·rename_i el n hk hn
    obtain⟨un,hu,_,hf⟩:=(hT t d hd).under
    rw[hk] at hf
    have hf:un = .slice el:=hf
    subst hf
    have hv:∃ao c,a.eval x = .slice ao n c:=by
     have he:=hp.ev x e hx
     cases e with
     |pv p =>
      cases p<;>simp[mZ] at hn
      subst hn
      generalize a.eval x=v at he
      cases he with
      |nil ao c=>exact⟨ao,c,rfl⟩
      |list _ b o c s f=>exact⟨_,c,rfl⟩
     |row r off len sz =>
      simp[mZ] at hn
      subst hn
      obtain⟨_,⟨_,rfl,hv⟩|⟨b,c,_,hv,_⟩⟩:=he
      ·exact⟨_,_,hv⟩
      ·exact⟨_,c,hv⟩
     |qM r len sz =>
      simp[mZ] at hn
      subst hn
      obtain⟨_,⟨_,rfl,hv⟩|⟨b,c,_,hv,_⟩⟩:=he
      ·exact⟨_,_,hv⟩
      ·exact⟨_,c,hv⟩
     |oA _ _=>simp[mZ] at hn
     |ptr _ _=>simp[mZ] at hn
     |pz _=>simp[mZ] at hn
     |dead=>simp[mZ] at hn
     |pA _ _ _ _ _=>simp[mZ] at hn
     |Cu _ _=>simp[mZ] at hn
    obtain⟨ao,c,hv⟩:=hv
    have exec:(execOp a.eval ⟨dst,.call ⟨.builtin .len,#[x],#[t]⟩,ty,pos,after,guard⟩).run P w = .ok (.value (.int .i64 n)) w:=by
     simp[execOp,resolve,invoke,builtin,Builtin.len_,hv,run_underlying hu,goInt]
    split at aq
    ·rename_i m
     injection aq with aq;subst aq
     have hm:(n:Int)=m:=cr
     rw[hm] at exec
     exact dq.pure (e := .pv _) exec (Rd.int _ _)
    ·rw[cJ aq]
     exact dq.pure (e := .pv _) exec (Rd.int _ _)
   ·rename_i hk
    obtain⟨un,hu,_,hf⟩:=(hT t d hd).under
    rw[hk] at hf
    have hf:un = .string:=hf
    subst hf
    split at aq
    ·rename_i s m
     injection aq with aq;subst aq
     have hv:a.eval x = .string s:=by
      have he:Rd I w (.str s) (a.eval x):=hp.ev x _ hx
      generalize a.eval x=v at he
      cases he;rfl
     have hm:(s.size:Int)=m:=cr
     have exec:(execOp a.eval ⟨dst,.call ⟨.builtin .len,#[x],#[t]⟩,ty,pos,after,guard⟩).run P w = .ok (.value (.int .i64 s.size)) w:=by
      simp[execOp,resolve,invoke,builtin,Builtin.len_,hv,run_underlying hu,goInt]
     rw[hm] at exec
     exact dq.pure (e := .pv _) exec (Rd.int _ _)
    ·cases aq
   ·cases aq
  ·cases aq
 ·rename_i x y kg
  have mF:=zK kg
  subst mF
  split at aq
  ·rename_i k m k' m' QD r hx hy
   cases hkk:(decide (k=k')&&decide (k=QD)) with
   |false=>simp[hkk] at aq
   |true =>
    simp only[hkk,cond_true] at aq
    simp only[Bool.and_eq_true,decide_eq_true_eq] at hkk
    obtain⟨rfl,rfl⟩:=hkk
    injection aq with aq;subst aq
    have Cv:a.eval x = .int k m:=sX (hp.ev x _ hx)
    have xD:a.eval y = .int k m':=sX (hp.ev y _ hy)
    have cr:(if m'>m then m' else m)=r:=cr
    refine dq.pure (e := .pv _) (v := .int k r) ?_ (Rd.int _ _)
    simp[execOp,resolve,invoke,builtin,Builtin.max_,Builtin.max2,Cv,xD]
    exact cr
  ·cases aq
 ·rename_i x y kg
  have mF:=zK kg
  subst mF
  split at aq
  ·rename_i k m k' m' QD r hx hy
   cases hkk:(decide (k=k')&&decide (k=QD)) with
   |false=>simp[hkk] at aq
   |true =>
    simp only[hkk,cond_true] at aq
    simp only[Bool.and_eq_true,decide_eq_true_eq] at hkk
    obtain⟨rfl,rfl⟩:=hkk
    injection aq with aq;subst aq
    have Cv:a.eval x = .int k m:=sX (hp.ev x _ hx)
    have xD:a.eval y = .int k m':=sX (hp.ev y _ hy)
    have cr:(if m'<m then m' else m)=r:=cr
    refine dq.pure (e := .pv _) (v := .int k r) ?_ (Rd.int _ _)
    simp[execOp,resolve,invoke,builtin,Builtin.min_,Builtin.min2,Cv,xD]
    exact cr
  ·cases aq
 ·cases aq
theorem FC{t:TypeId}{x i:Operand}(hT:nM P T)(hp:zG a w β L I aG ρ)(aq:cf T aG dst (.index t x i) ρ h=some res)(cr:dP res.ob) :
  dq P ⟨dst,.index t x i,ty,pos,after,guard⟩ a β L I w res:=by
 simp only[cf] at aq
 split at aq
 ·rename_i d cs ik n k row hd hx hi
  have SJ:a.eval i = .int ik n:=sX (hp.ev i _ hi)
  split at aq
  ·rename_i len el hk
   obtain⟨un,hu,_,hf⟩:=(hT t d hd).under
   rw[hk] at hf
   obtain⟨hf,AL,Vz⟩:=hf
   subst hf
   split at aq
   ·rename_i de oB
    cases hg:de.agg with
    |false=>simp[hg] at aq
    |true =>
     simp only[hg,cond_true] at aq
     injection aq with aq;subst aq
     obtain⟨h1,cr⟩:=cr.cons
     obtain⟨h2,cr⟩:=cr.cons
     obtain⟨h3,h4⟩:=cr.cons
     have h4:(cs.drop (k*de.size)).take de.size=row:=h4
     subst h1
     have hr:Rd I w (.agg cs) (a.eval x):=hp.ev x _ hx
     generalize sO:a.eval x=v at hr
     cases hr with
     |agg _ us hl ho hh =>
      have hc:bV I w cs us.toList:=⟨by simpa using hl,fun j c u hj Lz=>⟨ho j c hj,hh j c u hj (by simpa using Lz)⟩⟩
      have QI:=hT el de oB
      obtain⟨i,La,uP,On,hi4⟩:=QI.run_typeInfo (w:=w)
      have lI:P.cellsOf el=de.size:=by simp[Program.cellsOf,uP,On]
      obtain⟨VA,Fw,VB,_⟩:=QI.under
      have Vy:wb P el=true:=by
       unfold wb
       rw[Fw]
       show vf VA=true
       exact VB.trans hg
      have PJ:AB cs (k*de.size) (P.cellsOf el) (wb P el)=some (.agg row):=by
       unfold AB
       rw[Vy,cond_true,lI,Nat.ble_eq_true_of_le h3,cond_true,h4]
      obtain⟨v,q1,q2⟩:=Fo w AL Vz hc PJ
      refine dq.pure (e := .pv (.agg row)) (cM rfl ?_) q2
      have ba:(0:Int)≤(k:Int)∧(k:Int)<(len:Int):=by omega
      rw[sO,SJ]
      unfold Instr.index
      simp only[Sem.run_bind,asIntOf,Sem.run_pure,Result.andThen_ok,run_underlying hu]
      rw[if_pos ba]
      simp only[Sem.run_bind,QI.run_sizeOf w,Result.andThen_ok,Int.toNat_natCast]
      exact q1
   ·cases aq
  ·cases aq
 ·rename_i d s ik n k m hd hx hi
  have SJ:a.eval i = .int ik n:=sX (hp.ev i _ hi)
  have Cv:a.eval x = .string s:=by
   have hr:Rd I w (.str s) (a.eval x):=hp.ev x _ hx
   generalize a.eval x=v at hr
   cases hr;rfl
  split at aq
  ·rename_i hk
   obtain⟨un,hu,_,hf⟩:=(hT t d hd).under
   rw[hk] at hf
   have hf:un = .string:=hf
   subst hf
   injection aq with aq;subst aq
   obtain⟨h1,h2⟩:=cr.cons
   have h2:(s.data.toList[k]?).map (fun b=>(b.toNat:Int))=some m:=h2
   subst h1
   cases hb:s.data.toList[k]? with
   |none=>rw[hb] at h2;cases h2
   |some b =>
    rw[hb] at h2
    simp only[Option.map_some,Option.some.injEq] at h2
    refine dq.pure (e := .pv _) (v := .int .u8 m) (cM rfl ?_) (Rd.int _ _)
    rw[SJ,Cv]
    have uG:s[k]? = some b:=by
     have ba:k<s.data.size:=by simpa using(List.getElem?_eq_some_iff.1 hb).1
     have VC:k<s.size:=ba
     rw[getElem?_pos s k VC]
     congr 1
     have h3:=(List.getElem?_eq_some_iff.1 hb).2
     have h4:s.data[k]=b:=by simpa using h3
     exact h4
    unfold Instr.index
    simp only[Sem.run_bind,asIntOf,Sem.run_pure,Result.andThen_ok,run_underlying hu,Int.toNat_natCast]
    rw[if_pos (by omega),uG]
    simp[h2]
  ·cases aq
 ·cases aq
theorem AM{fn:Fn}{first cap:Array Operand}(hp:zG a w β L I aG ρ)(aq:cf T aG dst (.makeFunc fn first cap) ρ h=some res) :
  dq P ⟨dst,.makeFunc fn first cap,ty,pos,after,guard⟩ a β L I w res:=by
 simp only[cf] at aq
 split at aq
 ·rename_i f x h1 h2
  have VD:first = #[]:=by apply Array.ext';simpa using h1
  have VE:=Om h2
  subst VD;subst VE
  split at aq
  ·rename_i r hx
   rw[cJ aq]
   obtain⟨hl,b,hb,hv⟩:=hp.ev x _ hx
   refine dq.pure (e := .Cu f r) (v := .func (.func f) #[] #[.pointer (some ⟨b,0,none⟩)]) ?_ ⟨hl,b,hb,rfl⟩
   simp[execOp,Instr.makeFunc,hv]
  ·cases aq
 ·rename_i f h1 h2
  have VD:first = #[]:=by apply Array.ext';simpa using h1
  have VE:cap = #[]:=by apply Array.ext';simpa using h2
  subst VD;subst VE
  rw[cJ aq]
  refine dq.pure (e := .pv _) (v := .func (.func f) #[] #[]) ?_ (Rd.fn _)
  simp[execOp,Instr.makeFunc]
 ·cases aq
theorem yE(hT:nM P T)(hp:zG a w β L I aG ρ){o:Oper}(aq:cf T aG o.dst o.op ρ h=some res)(cr:dP res.ob):dq P o a β L I w res:=by
 obtain⟨dst,op,ty,pos,after,guard⟩:=o
 cases op
 case move x=>exact HB hp aq
 case makeFunc fn f1 cap=>exact AM hp aq
 case assign x=>exact D2 hp aq
 case pick c x y=>exact HC hp aq cr
 case alloc t=>exact Ft hT hp aq
 case box t x=>exact Kj hp aq
 case build t ps=>exact Fu hT hp aq
 case buildSlice t n ps=>exact xC hT hp aq cr
 case load t x=>exact HE hT hp aq cr
 case nilCheck x=>exact AK hp aq
 case binOp op t x y yt=>exact Fx hT hp aq cr
 case unOp op t x=>exact HF hp aq cr
 case convert s t x=>exact Cz hT hp aq cr
 case makeInterface t x=>exact uF hT hp aq
 case makeSlice t x y=>exact zH hT hp aq cr
 case slice t x lo hi mx=>exact Fz hT hp aq cr
 case fieldAddr t x f=>exact zI hT hp aq
 case field t x f=>exact FB hT hp aq
 case indexAddr t x i=>exact zJ hT hp aq cr
 case index t x i=>exact FC hT hp aq cr
 case extract x i=>exact CA hp aq
 case typeAssert x xt t ok=>exact xF hT hp aq
 case call c=>exact HG hT hp aq cr
 all_goals (exfalso;simp[cf] at aq)
end
end Go.Proofs.YtllmkadmohkbfaaGreatDoor.Sym
