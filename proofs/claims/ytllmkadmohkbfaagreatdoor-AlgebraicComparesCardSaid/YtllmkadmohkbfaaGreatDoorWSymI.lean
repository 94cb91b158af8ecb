/- Lemmas for the statements of this seat. -/
import Derived.Test.YtllmkadmohkbfaaGreatDoorWSymH
namespace Go.Proofs.YtllmkadmohkbfaaGreatDoor.Sym
open Go Go.RowKit
section
variable {P:Program} {T:qU} {a:Act} {w:World} {β:Nat→Option Nat} {L I:Nat→Prop} {bp:cq} {ρ:Operand→Option EV} {h:Hint} {res:uC}
variable {dst:Option Tmp} {ty:TypeId} {pos:String} {after:Array Edge} {guard:Option (Nat×Bool)}
theorem yo{t:TypeId}{d:TD}{fs:List (Nat×Nat×Bool)}{f off size:Nat}{agg:Bool}(hd:xy P t d)(hk:d.kind = .struct fs)(hf:fs[f]? = some (off,size,agg)) :
  ∃ff fl,P.underlying t=some (.struct ff)∧ff[f]? = some fl∧fl.offset=off∧P.cellsOf fl.type=size∧CD P fl.type=agg∧(P.info? fl.type).isSome=true∧(P.underlying fl.type).isSome=true:=by
 obtain⟨u,hu,_,FG⟩:=hd.under
 rw[hk] at FG
 obtain⟨ff,rfl,h1,h2⟩:=FG
 rw[←h1,List.getElem?_map] at hf
 cases hx:ff.toList[f]? with
 |none=>rw[hx] at hf;cases hf
 |some fl =>
  rw[hx] at hf
  simp only[Option.map_some,Option.some.injEq,Prod.mk.injEq] at hf
  have hm:fl∈ff:=by simpa using List.mem_of_getElem? hx
  exact⟨ff,fl,hu,by simpa using hx,hf.1,hf.2.1,hf.2.2,h2 fl hm⟩
theorem Fo{t:TypeId}{x:Operand}{f:Nat}(hT:uj P T)(hp:Fk a w β L I bp ρ)(aH:fF T bp dst (.fieldAddr t x f) ρ h=some res) :
  im P ⟨dst,.fieldAddr t x f,ty,pos,after,guard⟩ a β L I w res:=by
 simp only[fF] at aH
 split at aH
 ·rename_i d e hd hx
  split at aH
  ·rename_i fs hk
   split at aH
   ·rename_i off size agg hf
    obtain⟨ff,fl,hu,FH,Qc,rD,_,Gk,_⟩:=yo (hT t d hd) hk hf
    cases hs:Nat.ble 1 size with
    |false=>simp[hs] at aH
    |true =>
     simp only[hs,cond_true] at aH
     have Jx:1≤size:=Nat.le_of_ble_eq_true hs
     have exec:∀b o,a.eval x = .pointer (some ⟨b,o,none⟩)→(Instr.fieldAt t (a.eval x) f).run P w = .ok (.pointer (some ⟨b,o+off,none⟩)) w:=by
      intro b o hv
      obtain⟨i,hi⟩:=Option.isSome_iff_exists.1 Gk
      have CF:(sizeOf fl.type).run P w = .ok (P.cellsOf fl.type) w:=by simp[sizeOf,typeInfo,hi,Program.cellsOf]
      rw[hv]
      unfold Instr.fieldAt
      simp only[Sem.run_bind,run_underlying hu,Result.andThen_ok,FH,Instr.sureAddr,Sem.run_pure,fieldPlace,CF]
      rw[if_neg (by omega)]
      simp only[Sem.run_pure,Result.andThen_ok,n9,Qc]
     split at aH
     ·rename_i r o
      rw[gi aH]
      obtain⟨hL,b,hb,hv⟩:=hp.ev x _ hx
      exact im.pure (e := .ptr _ _) (gz rfl (exec _ _ hv)) ⟨hL,b,hb,rfl⟩
     ·rename_i cs
      rw[gi aH]
      obtain⟨b,o,hv,hb,hc⟩:=hp.ev x _ hx
      refine im.pure (e := .wi _) (gz rfl (exec _ _ hv)) ⟨b,o+off,rfl,hb,fun j y hy => ?_⟩
      rw[List.getElem?_drop] at hy
      have:=hc _ y hy
      rw[Nat.add_assoc]
      exact this
     ·rename_i r o
      rw[gi aH]
      obtain⟨hL,b,hb,hv⟩:=hp.ev x _ hx
      exact im.pure (e := .u0 _ _) (gz rfl (exec _ _ hv)) ⟨hL,b,hb,rfl⟩
     ·cases aH
   ·cases aH
  ·cases aH
 ·cases aH
theorem KK{t:TypeId}{x:Operand}{f:Nat}(hT:uj P T)(hp:Fk a w β L I bp ρ)(aH:fF T bp dst (.field t x f) ρ h=some res) :
  im P ⟨dst,.field t x f,ty,pos,after,guard⟩ a β L I w res:=by
 simp only[fF] at aH
 split at aH
 ·rename_i d cs hd hx
  split at aH
  ·rename_i fs hk
   split at aH
   ·rename_i off size agg hf
    split at aH
    ·rename_i p EF
     rw[gi aH]
     obtain⟨ff,fl,hu,FH,Qc,rD,YH,Gk,YI⟩:=yo (hT t d hd) hk hf
     have hr:Rd I w (.agg cs) (a.eval x):=hp.ev x _ hx
     generalize mD:a.eval x=v at hr
     cases hr with
     |agg _ us hl ho hh =>
      have hc:eh I w cs us.toList:=⟨by simpa using hl,fun j c u hj Qd=>⟨ho j c hj,hh j c u hj (by simpa using Qd)⟩⟩
      subst Qc;subst rD;subst YH
      obtain⟨v,h1,h2⟩:=Kz w Gk YI hc EF
      refine im.pure (e := .pv p) (gz rfl ?_) h2
      rw[mD]
      unfold Instr.field
      simp only[Sem.run_bind,run_underlying hu,Result.andThen_ok,FH,asAgg,Sem.run_pure]
      exact h1
    ·cases aH
   ·cases aH
  ·cases aH
 ·cases aH
theorem Fp{t:TypeId}{x i:Operand}(hT:uj P T)(hp:Fk a w β L I bp ρ)(aH:fF T bp dst (.indexAddr t x i) ρ h=some res)(fK:je res.ob) :
  im P ⟨dst,.indexAddr t x i,ty,pos,after,guard⟩ a β L I w res:=by
 simp only[fF] at aH
 split at aH
 ·rename_i d e ik n hd hx hi
  have Wk:a.eval i = .int ik n:=zM (hp.ev i _ hi)
  split at aH
  ·rename_i el hk
   obtain⟨un,hu,_,hf⟩:=(hT t d hd).under
   rw[hk] at hf
   have hf:un = .slice el:=hf
   subst hf
   split at aH
   ·rename_i de u5
    have exec:∀(b o len c k:Nat),a.eval x = .slice (some ⟨b,o,none⟩) len c→n=(k:Int)→k<len→(Instr.indexAt t (a.eval x) (a.eval i)).run P w = .ok (.pointer (some ⟨b,o+k*de.size,none⟩)) w:=by
     intro b o len c k hv hn hk
     subst hn
     have Gk:(0:Int)≤(k:Int)∧(k:Int)<(len:Int):=by omega
     rw[hv,Wk]
     unfold Instr.indexAt
     simp only[Sem.run_bind,asIntOf,Sem.run_pure,Result.andThen_ok,run_underlying hu]
     have aaH:(if len≤1 then false else false:Bool)=false:=by split<;>rfl
     simp only[Gk,and_self,if_true,Sem.run_bind,(hT el de u5).run_sizeOf w,Result.andThen_ok,Sem.run_pure,Int.toNat_natCast,n9]
    split at aH
    ·rename_i r off len sz k
     cases rD:Nat.beq sz de.size with
     |false=>simp[rD] at aH
     |true =>
      simp only[rD,cond_true] at aH
      have Jy:sz=de.size:=Nat.eq_of_beq_eq_true rD
      injection aH with aH;subst aH
      obtain⟨h1,h2⟩:=fK.cons
      have h2:k<len:=h2
      obtain⟨hL,⟨_,KJ,_⟩|⟨b,c,hb,hv,_⟩⟩:=hp.ev x _ hx
      ·omega
      ·exact im.pure (e := .ptr _ _) (gz rfl (exec _ _ _ _ k hv h1 h2)) ⟨hL,b,hb,by rw[Jy]⟩
    ·rename_i jj len sz k
     cases rD:Nat.beq sz de.size with
     |false=>simp[rD] at aH
     |true =>
      simp only[rD,cond_true] at aH
      have Jy:sz=de.size:=Nat.eq_of_beq_eq_true rD
      injection aH with aH;subst aH
      obtain⟨h1,h2⟩:=fK.cons
      have h2:k<len:=h2
      obtain⟨hL,⟨_,KJ,_⟩|⟨b,c,hb,hv,_⟩⟩:=hp.ev x _ hx
      ·omega
      ·exact im.pure (e := .u0 _ _) (gz rfl (exec _ _ _ _ k hv h1 h2)) ⟨hL,b,hb,by rw[Jy,Nat.zero_add]⟩
    ·rename_i xs k row
     injection aH with aH;subst aH
     obtain⟨h1,fK⟩:=fK.cons
     obtain⟨h2,h3⟩:=fK.cons
     have h3:row.length=de.size:=h3
     have hr:Rd I w (.list xs) (a.eval x):=hp.ev x _ hx
     have bH:k<xs.length:=(List.getElem?_eq_some_iff.1 h2).1
     generalize mD:a.eval x=v at hr
     cases hr with
     |nil=>simp at bH
     |list _ b o c s f hc hb hs ho hh =>
      have WJ:s=de.size:=by rw[←hs k row h2,h3]
      subst WJ
      refine im.pure (e := .wi _) (gz rfl (exec b o _ c k mD h1 bH)) ⟨b,_,rfl,hb,fun j y hy => ?_⟩
      have g:=ho k j row y h2 hy
      refine⟨g.1,f k j,?_,hh k j row y h2 hy⟩
      rw[Nat.add_assoc]
      exact g.2
    ·cases aH
   ·cases aH
  ·rename_i len el hk
   obtain⟨un,hu,_,hf⟩:=(hT t d hd).under
   rw[hk] at hf
   obtain⟨hf,_,_⟩:=hf
   subst hf
   split at aH
   ·rename_i de u5
    split at aH
    ·rename_i r off k
     injection aH with aH;subst aH
     obtain⟨h1,h2⟩:=fK.cons
     have h2:k<len:=h2
     obtain⟨hL,b,hb,hv⟩:=hp.ev x _ hx
     refine im.pure (e := .ptr _ _) (v := .pointer (some ⟨b,off+k*de.size,none⟩)) (gz rfl ?_) ⟨hL,b,hb,rfl⟩
     subst h1
     have Gk:(0:Int)≤(k:Int)∧(k:Int)<(len:Int):=by omega
     rw[hv,Wk]
     unfold Instr.indexAt
     simp only[Sem.run_bind,asIntOf,Sem.run_pure,Result.andThen_ok,run_underlying hu,Instr.sureAddr]
     simp only[Gk,and_self,if_true,Sem.run_bind,(hT el de u5).run_sizeOf w,Result.andThen_ok,Sem.run_pure,Int.toNat_natCast,n9]
    ·cases aH
   ·cases aH
  ·cases aH
 ·cases aH
theorem Ig{x:Operand}{i:Nat}(hp:Fk a w β L I bp ρ)(aH:fF T bp dst (.extract x i) ρ h=some res) :
  im P ⟨dst,.extract x i,ty,pos,after,guard⟩ a β L I w res:=by
 simp only[fF] at aH
 split at aH
 ·rename_i vs hx
  split at aH
  ·rename_i p hpi
   rw[gi aH]
   have hr:Rd I w (.aB vs) (a.eval x):=hp.ev x _ hx
   generalize mD:a.eval x=v at hr
   cases hr with
   |aB _ us hl hh =>
    have hi:i<us.size:=by rw[←hl];exact(List.getElem?_eq_some_iff.1 hpi).1
    have hu:us[i]? = some us[i]:=Array.getElem?_eq_getElem hi
    refine im.pure (e := .pv p) (gz rfl ?_) (hh i p _ hpi hu)
    rw[mD]
    simp[Instr.extract,hu]
  ·cases aH
 ·rename_i r off len sz ps hx
  obtain⟨us,mD,rD,⟨u,O3,IN⟩,hh⟩:=hp.ev x _ hx
  cases i with
  |zero =>
   rw[gi aH]
   exact im.pure (e := .row r off len sz) (gz rfl (by rw[mD];simp[Instr.extract,O3])) IN
  |succ j =>
   simp only at aH
   split at aH
   ·rename_i p hpj
    rw[gi aH]
    have hi:j+1<us.size:=by have:=(List.getElem?_eq_some_iff.1 hpj).1;omega
    have hu:us[j+1]? = some us[j+1]:=Array.getElem?_eq_getElem hi
    exact im.pure (e := .pv p) (gz rfl (by rw[mD];simp[Instr.extract,hu])) (hh j p _ hpj hu)
   ·cases aH
 ·cases aH
theorem DV{x:Operand}{xt t:TypeId}{ok:Bool}(hT:uj P T)(hp:Fk a w β L I bp ρ)(aH:fF T bp dst (.typeAssert x xt t ok) ρ h=some res) :
  im P ⟨dst,.typeAssert x xt t ok,ty,pos,after,guard⟩ a β L I w res:=by
 cases ok with
 |false=>simp[fF] at aH
 |true =>
  simp only[fF] at aH
  split at aH
  ·rename_i d u p hd hx
   split at aH
   ·rename_i k hk
    cases hb:Nat.beq u t with
    |false=>simp[hb] at aH
    |true =>
     simp only[hb,cond_true] at aH
     have hut:u=t:=Nat.eq_of_beq_eq_true hb
     subst hut
     rw[gi aH]
     obtain⟨un,hu,_,hf⟩:=(hT u d hd).under
     rw[hk] at hf
     have hf:un = .int k:=hf
     subst hf
     have hr:Rd I w (.iface u p) (a.eval x):=hp.ev x _ hx
     generalize mD:a.eval x=v at hr
     cases hr with
     |iface _ _ v hv =>
      refine im.pure (e := .pv _) (v := .tuple #[v,.bool true]) (gz rfl ?_) (Rd.aB _ _ rfl (fun j c y hc hy => ?_))
      ·rw[mD]
       simp[Instr.typeAssert,run_underlying hu]
      ·match j,hc,hy with
       |0,hc,hy=>simp at hc hy;subst hc hy;exact hv
       |1,hc,hy=>simp at hc hy;subst hc hy;exact .bool _
       |j+2,hc,hy=>simp at hc
   ·cases aH
  ·cases aH
theorem Sv{α:Type}{xs:Array α}{x:α}(h:xs.toList=[x]):xs = #[x]:=by
 apply Array.ext';simpa using h
theorem Fq{α:Type}{xs:Array α}{x y:α}(h:xs.toList=[x,y]):xs = #[x,y]:=by
 apply Array.ext';simpa using h
theorem Mu{c:Call}(hT:uj P T)(hp:Fk a w β L I bp ρ)(aH:fF T bp dst (.call c) ρ h=some res)(fK:je res.ob) :
  im P ⟨dst,.call c,ty,pos,after,guard⟩ a β L I w res:=by
 obtain⟨cl,args,Qe⟩:=c
 simp only[fF] at aH
 split at aH
 ·rename_i x t oc Mv
  have sS:=Sv oc
  have CG:=Sv Mv
  subst sS;subst CG
  split at aH
  ·rename_i d e hd hx
   split at aH
   ·rename_i el n hk hn
    obtain⟨un,hu,_,hf⟩:=(hT t d hd).under
    rw[hk] at hf
    have hf:un = .slice el:=hf
    subst hf
    have hv:∃ao c,a.eval x = .slice ao n c:=by
     have he:=hp.ev x e hx
     cases e with
     |pv p =>
      cases p<;>simp[tD] at hn
      subst hn
      generalize a.eval x=v at he
      cases he with
      |nil ao c=>exact⟨ao,c,rfl⟩
      |list _ b o c s f=>exact⟨_,c,rfl⟩
     |row r off len sz =>
      simp[tD] at hn
      subst hn
      obtain⟨_,⟨_,rfl,hv⟩|⟨b,c,_,hv,_⟩⟩:=he
      ·exact⟨_,_,hv⟩
      ·exact⟨_,c,hv⟩
     |xx r len sz =>
      simp[tD] at hn
      subst hn
      obtain⟨_,⟨_,rfl,hv⟩|⟨b,c,_,hv,_⟩⟩:=he
      ·exact⟨_,_,hv⟩
      ·exact⟨_,c,hv⟩
     |u0 _ _=>simp[tD] at hn
     |ptr _ _=>simp[tD] at hn
     |wi _=>simp[tD] at hn
     |dead=>simp[tD] at hn
     |wj _ _ _ _ _=>simp[tD] at hn
     |H6 _ _=>simp[tD] at hn
    obtain⟨ao,c,hv⟩:=hv
    have exec:(execOp a.eval ⟨dst,.call ⟨.builtin .len,#[x],#[t]⟩,ty,pos,after,guard⟩).run P w = .ok (.value (.int .i64 n)) w:=by
     simp[execOp,resolve,invoke,builtin,Builtin.len_,hv,run_underlying hu,goInt]
    split at aH
    ·rename_i m
     injection aH with aH;subst aH
     have hm:(n:Int)=m:=fK
     rw[hm] at exec
     exact im.pure (e := .pv _) exec (Rd.int _ _)
    ·rw[gi aH]
     exact im.pure (e := .pv _) exec (Rd.int _ _)
   ·rename_i hk
    obtain⟨un,hu,_,hf⟩:=(hT t d hd).under
    rw[hk] at hf
    have hf:un = .string:=hf
    subst hf
    split at aH
    ·rename_i s m
     injection aH with aH;subst aH
     have hv:a.eval x = .string s:=by
      have he:Rd I w (.str s) (a.eval x):=hp.ev x _ hx
      generalize a.eval x=v at he
      cases he;rfl
     have hm:(s.size:Int)=m:=fK
     have exec:(execOp a.eval ⟨dst,.call ⟨.builtin .len,#[x],#[t]⟩,ty,pos,after,guard⟩).run P w = .ok (.value (.int .i64 s.size)) w:=by
      simp[execOp,resolve,invoke,builtin,Builtin.len_,hv,run_underlying hu,goInt]
     rw[hm] at exec
     exact im.pure (e := .pv _) exec (Rd.int _ _)
    ·cases aH
   ·cases aH
  ·cases aH
 ·rename_i x y oc
  have sS:=Fq oc
  subst sS
  split at aH
  ·rename_i k m k' m' Uq r hx hy
   cases hkk:(decide (k=k')&&decide (k=Uq)) with
   |false=>simp[hkk] at aH
   |true =>
    simp only[hkk,cond_true] at aH
    simp only[Bool.and_eq_true,decide_eq_true_eq] at hkk
    obtain⟨rfl,rfl⟩:=hkk
    injection aH with aH;subst aH
    have H7:a.eval x = .int k m:=zM (hp.ev x _ hx)
    have DT:a.eval y = .int k m':=zM (hp.ev y _ hy)
    have fK:(if m'>m then m' else m)=r:=fK
    refine im.pure (e := .pv _) (v := .int k r) ?_ (Rd.int _ _)
    simp[execOp,resolve,invoke,builtin,Builtin.max_,Builtin.max2,H7,DT]
    exact fK
  ·cases aH
 ·rename_i x y oc
  have sS:=Fq oc
  subst sS
  split at aH
  ·rename_i k m k' m' Uq r hx hy
   cases hkk:(decide (k=k')&&decide (k=Uq)) with
   |false=>simp[hkk] at aH
   |true =>
    simp only[hkk,cond_true] at aH
    simp only[Bool.and_eq_true,decide_eq_true_eq] at hkk
    obtain⟨rfl,rfl⟩:=hkk
    injection aH with aH;subst aH
    have H7:a.eval x = .int k m:=zM (hp.ev x _ hx)
    have DT:a.eval y = .int k m':=zM (hp.ev y _ hy)
    have fK:(if m'<m then m' else m)=r:=fK
    refine im.pure (e := .pv _) (v := .int k r) ?_ (Rd.int _ _)
    simp[execOp,resolve,invoke,builtin,Builtin.min_,Builtin.min2,H7,DT]
    exact fK
  ·cases aH
 ·cases aH
theorem KL{t:TypeId}{x i:Operand}(hT:uj P T)(hp:Fk a w β L I bp ρ)(aH:fF T bp dst (.index t x i) ρ h=some res)(fK:je res.ob) :
  im P ⟨dst,.index t x i,ty,pos,after,guard⟩ a β L I w res:=by
 simp only[fF] at aH
 split at aH
 ·rename_i d cs ik n k row hd hx hi
  have Wk:a.eval i = .int ik n:=zM (hp.ev i _ hi)
  split at aH
  ·rename_i len el hk
   obtain⟨un,hu,_,hf⟩:=(hT t d hd).under
   rw[hk] at hf
   obtain⟨hf,Gk,YI⟩:=hf
   subst hf
   split at aH
   ·rename_i de u5
    cases hg:de.agg with
    |false=>simp[hg] at aH
    |true =>
     simp only[hg,cond_true] at aH
     injection aH with aH;subst aH
     obtain⟨h1,fK⟩:=fK.cons
     obtain⟨h2,fK⟩:=fK.cons
     obtain⟨h3,h4⟩:=fK.cons
     have h4:(cs.drop (k*de.size)).take de.size=row:=h4
     subst h1
     have hr:Rd I w (.agg cs) (a.eval x):=hp.ev x _ hx
     generalize mD:a.eval x=v at hr
     cases hr with
     |agg _ us hl ho hh =>
      have hc:eh I w cs us.toList:=⟨by simpa using hl,fun j c u hj Qd=>⟨ho j c hj,hh j c u hj (by simpa using Qd)⟩⟩
      have Uv:=hT el de u5
      obtain⟨i,xu,ql,Kt,hi4⟩:=Uv.run_typeInfo (w:=w)
      have rD:P.cellsOf el=de.size:=by simp[Program.cellsOf,ql,Kt]
      obtain⟨YJ,Ic,YK,_⟩:=Uv.under
      have YH:CD P el=true:=by
       unfold CD
       rw[Ic]
       show BA YJ=true
       exact YK.trans hg
      have EF:Ga cs (k*de.size) (P.cellsOf el) (CD P el)=some (.agg row):=by
       unfold Ga
       rw[YH,cond_true,rD,Nat.ble_eq_true_of_le h3,cond_true,h4]
      obtain⟨v,q1,q2⟩:=Kz w Gk YI hc EF
      refine im.pure (e := .pv (.agg row)) (gz rfl ?_) q2
      have bH:(0:Int)≤(k:Int)∧(k:Int)<(len:Int):=by omega
      rw[mD,Wk]
      unfold Instr.index
      simp only[Sem.run_bind,asIntOf,Sem.run_pure,Result.andThen_ok,run_underlying hu]
      rw[if_pos bH]
      simp only[Sem.run_bind,Uv.run_sizeOf w,Result.andThen_ok,Int.toNat_natCast]
      exact q1
   ·cases aH
  ·cases aH
 ·rename_i d s ik n k m hd hx hi
  have Wk:a.eval i = .int ik n:=zM (hp.ev i _ hi)
  have H7:a.eval x = .string s:=by
   have hr:Rd I w (.str s) (a.eval x):=hp.ev x _ hx
   generalize a.eval x=v at hr
   cases hr;rfl
  split at aH
  ·rename_i hk
   obtain⟨un,hu,_,hf⟩:=(hT t d hd).under
   rw[hk] at hf
   have hf:un = .string:=hf
   subst hf
   injection aH with aH;subst aH
   obtain⟨h1,h2⟩:=fK.cons
   have h2:(s.data.toList[k]?).map (fun b=>(b.toNat:Int))=some m:=h2
   subst h1
   cases hb:s.data.toList[k]? with
   |none=>rw[hb] at h2;cases h2
   |some b =>
    rw[hb] at h2
    simp only[Option.map_some,Option.some.injEq] at h2
    refine im.pure (e := .pv _) (v := .int .u8 m) (gz rfl ?_) (Rd.int _ _)
    rw[Wk,H7]
    have Bb:s[k]? = some b:=by
     have bH:k<s.data.size:=by simpa using(List.getElem?_eq_some_iff.1 hb).1
     have YL:k<s.size:=bH
     rw[getElem?_pos s k YL]
     congr 1
     have h3:=(List.getElem?_eq_some_iff.1 hb).2
     have h4:s.data[k]=b:=by simpa using h3
     exact h4
    unfold Instr.index
    simp only[Sem.run_bind,asIntOf,Sem.run_pure,Result.andThen_ok,run_underlying hu,Int.toNat_natCast]
    rw[if_pos (by omega),Bb]
    simp[h2]
  ·cases aH
 ·cases aH
theorem Gl{fn:Fn}{first cap:Array Operand}(hp:Fk a w β L I bp ρ)(aH:fF T bp dst (.makeFunc fn first cap) ρ h=some res) :
  im P ⟨dst,.makeFunc fn first cap,ty,pos,after,guard⟩ a β L I w res:=by
 simp only[fF] at aH
 split at aH
 ·rename_i f x h1 h2
  have YM:first = #[]:=by apply Array.ext';simpa using h1
  have YN:=Sv h2
  subst YM;subst YN
  split at aH
  ·rename_i r hx
   rw[gi aH]
   obtain⟨hl,b,hb,hv⟩:=hp.ev x _ hx
   refine im.pure (e := .H6 f r) (v := .func (.func f) #[] #[.pointer (some ⟨b,0,none⟩)]) ?_ ⟨hl,b,hb,rfl⟩
   simp[execOp,Instr.makeFunc,hv]
  ·cases aH
 ·rename_i f h1 h2
  have YM:first = #[]:=by apply Array.ext';simpa using h1
  have YN:cap = #[]:=by apply Array.ext';simpa using h2
  subst YM;subst YN
  rw[gi aH]
  refine im.pure (e := .pv _) (v := .func (.func f) #[] #[]) ?_ (Rd.fn _)
  simp[execOp,Instr.makeFunc]
 ·cases aH
theorem EG(hT:uj P T)(hp:Fk a w β L I bp ρ){o:Oper}(aH:fF T bp o.dst o.op ρ h=some res)(fK:je res.ob):im P o a β L I w res:=by
 obtain⟨dst,op,ty,pos,after,guard⟩:=o
 cases op
 case move x=>exact Mp hp aH
 case makeFunc fn f1 cap=>exact Gl hp aH
 case assign x=>exact Jv hp aH
 case pick c x y=>exact Mq hp aH fK
 case alloc t=>exact KD hT hp aH
 case box t x=>exact O0 hp aH
 case build t ps=>exact KE hT hp aH
 case buildSlice t n ps=>exact DS hT hp aH fK
 case load t x=>exact Ms hT hp aH fK
 case nilCheck x=>exact Gj hp aH
 case binOp op t x y yt=>exact KG hT hp aH fK
 case unOp op t x=>exact Mt hp aH fK
 case convert s t x=>exact Ie hT hp aH fK
 case makeInterface t x=>exact Ba hT hp aH
 case makeSlice t x y=>exact Fm hT hp aH fK
 case slice t x lo hi mx=>exact KI hT hp aH fK
 case fieldAddr t x f=>exact Fo hT hp aH
 case field t x f=>exact KK hT hp aH
 case indexAddr t x i=>exact Fp hT hp aH fK
 case index t x i=>exact KL hT hp aH fK
 case extract x i=>exact Ig hp aH
 case typeAssert x xt t ok=>exact DV hT hp aH
 case call c=>exact Mu hT hp aH fK
 all_goals (exfalso;simp[fF] at aH)
end
end Go.Proofs.YtllmkadmohkbfaaGreatDoor.Sym
