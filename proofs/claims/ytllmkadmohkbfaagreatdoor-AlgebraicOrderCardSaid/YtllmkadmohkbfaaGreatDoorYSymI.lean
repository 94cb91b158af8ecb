/- The comparison of algebraic numbers is a total order that agrees with the comparison with fractions. The law AlgebraicOrder returns true for every input, with the tables of numerals of the Go library that the row lists as they are laid. -/
import Derived.Test.YtllmkadmohkbfaaGreatDoorYSymH
namespace Go.Proofs.YtllmkadmohkbfaaGreatDoor.Sym
open Go Go.RowKit
section
variable {P:Program} {T:j0} {a:Act} {w:World} {β:Nat→Option Nat} {L I:Nat→Prop} {aG:aS} {ρ:Operand→Option EV} {h:Hint} {res:mN}
variable {dst:Option Tmp} {ty:TypeId} {pos:String} {after:Array Edge} {guard:Option (Nat×Bool)}
theorem pY{t:TypeId}{d:TD}{fs:List (Nat×Nat×Bool)}{f off size:Nat}{agg:Bool}(hd:ph P t d)(hk:d.kind = .struct fs)(hf:fs[f]? = some (off,size,agg)) :
  ∃ff fl,P.underlying t=some (.struct ff)∧ff[f]? = some fl∧fl.offset=off∧P.cellsOf fl.type=size∧uE P fl.type=agg∧(P.info? fl.type).isSome=true∧(P.underlying fl.type).isSome=true:=by
 obtain⟨u,hu,_,I7⟩:=hd.under
 rw[hk] at I7
 obtain⟨ff,rfl,h1,h2⟩:=I7
 rw[←h1,List.getElem?_map] at hf
 cases hx:ff.toList[f]? with
 |none=>rw[hx] at hf;cases hf
 |some fl =>
  rw[hx] at hf
  simp only[Option.map_some,Option.some.injEq,Prod.mk.injEq] at hf
  have hm:fl∈ff:=by simpa using List.mem_of_getElem? hx
  exact⟨ff,fl,hu,by simpa using hx,hf.1,hf.2.1,hf.2.2,h2 fl hm⟩
theorem xT{t:TypeId}{x:Operand}{f:Nat}(hT:mC P T)(hp:xR a w β L I aG ρ)(aq:b8 T aG dst (.fieldAddr t x f) ρ h=some res) :
  cY P ⟨dst,.fieldAddr t x f,ty,pos,after,guard⟩ a β L I w res:=by
 simp only[b8] at aq
 split at aq
 ·rename_i d e hd hx
  split at aq
  ·rename_i fs hk
   split at aq
   ·rename_i off size agg hf
    obtain⟨ff,fl,hu,DM,Jy,kF,_,yO,_⟩:=pY (hT t d hd) hk hf
    cases hs:Nat.ble 1 size with
    |false=>simp[hs] at aq
    |true =>
     simp only[hs,cond_true] at aq
     have Io:1≤size:=Nat.le_of_ble_eq_true hs
     have exec:∀b o,a.eval x = .pointer (some ⟨b,o,none⟩)→(Instr.fieldAt t (a.eval x) f).run P w = .ok (.pointer (some ⟨b,o+off,none⟩)) w:=by
      intro b o hv
      obtain⟨i,hi⟩:=Option.isSome_iff_exists.1 yO
      have uG:(sizeOf fl.type).run P w = .ok (P.cellsOf fl.type) w:=by simp[sizeOf,typeInfo,hi,Program.cellsOf]
      rw[hv]
      unfold Instr.fieldAt
      simp only[Sem.run_bind,run_underlying hu,Result.andThen_ok,DM,Instr.sureAddr,Sem.run_pure,fieldPlace,uG]
      rw[if_neg (by omega)]
      simp only[Sem.run_pure,Result.andThen_ok,ia,Jy]
     split at aq
     ·rename_i r o
      rw[cx aq]
      obtain⟨hL,b,hb,hv⟩:=hp.ev x _ hx
      exact cY.pure (e := .ptr _ _) (cD rfl (exec _ _ hv)) ⟨hL,b,hb,rfl⟩
     ·rename_i cs
      rw[cx aq]
      obtain⟨b,o,hv,hb,hc⟩:=hp.ev x _ hx
      refine cY.pure (e := .n6 _) (cD rfl (exec _ _ hv)) ⟨b,o+off,rfl,hb,fun j y hy => ?_⟩
      rw[List.getElem?_drop] at hy
      have:=hc _ y hy
      rw[Nat.add_assoc]
      exact this
     ·rename_i r o
      rw[cx aq]
      obtain⟨hL,b,hb,hv⟩:=hp.ev x _ hx
      exact cY.pure (e := .nj _ _) (cD rfl (exec _ _ hv)) ⟨hL,b,hb,rfl⟩
     ·cases aq
   ·cases aq
  ·cases aq
 ·cases aq
theorem D2{t:TypeId}{x:Operand}{f:Nat}(hT:mC P T)(hp:xR a w β L I aG ρ)(aq:b8 T aG dst (.field t x f) ρ h=some res) :
  cY P ⟨dst,.field t x f,ty,pos,after,guard⟩ a β L I w res:=by
 simp only[b8] at aq
 split at aq
 ·rename_i d cs hd hx
  split at aq
  ·rename_i fs hk
   split at aq
   ·rename_i off size agg hf
    split at aq
    ·rename_i p NP
     rw[cx aq]
     obtain⟨ff,fl,hu,DM,Jy,kF,Tn,yO,To⟩:=pY (hT t d hd) hk hf
     have hr:Rd I w (.agg cs) (a.eval x):=hp.ev x _ hx
     generalize qZ:a.eval x=v at hr
     cases hr with
     |agg _ us hl ho hh =>
      have hc:bQ I w cs us.toList:=⟨by simpa using hl,fun j c u hj Jz=>⟨ho j c hj,hh j c u hj (by simpa using Jz)⟩⟩
      subst Jy;subst kF;subst Tn
      obtain⟨v,h1,h2⟩:=DR w yO To hc NP
      refine cY.pure (e := .pv p) (cD rfl ?_) h2
      rw[qZ]
      unfold Instr.field
      simp only[Sem.run_bind,run_underlying hu,Result.andThen_ok,DM,asAgg,Sem.run_pure]
      exact h1
    ·cases aq
   ·cases aq
  ·cases aq
 ·cases aq
theorem xU{t:TypeId}{x i:Operand}(hT:mC P T)(hp:xR a w β L I aG ρ)(aq:b8 T aG dst (.indexAddr t x i) ρ h=some res)(cb:dA res.ob) :
  cY P ⟨dst,.indexAddr t x i,ty,pos,after,guard⟩ a β L I w res:=by
 simp only[b8] at aq
 split at aq
 ·rename_i d e ik n hd hx hi
  have QJ:a.eval i = .int ik n:=rf (hp.ev i _ hi)
  split at aq
  ·rename_i el hk
   obtain⟨un,hu,_,hf⟩:=(hT t d hd).under
   rw[hk] at hf
   have hf:un = .slice el:=hf
   subst hf
   split at aq
   ·rename_i de nk
    have exec:∀(b o len c k:Nat),a.eval x = .slice (some ⟨b,o,none⟩) len c→n=(k:Int)→k<len→(Instr.indexAt t (a.eval x) (a.eval i)).run P w = .ok (.pointer (some ⟨b,o+k*de.size,none⟩)) w:=by
     intro b o len c k hv hn hk
     subst hn
     have yO:(0:Int)≤(k:Int)∧(k:Int)<(len:Int):=by omega
     rw[hv,QJ]
     unfold Instr.indexAt
     simp only[Sem.run_bind,asIntOf,Sem.run_pure,Result.andThen_ok,run_underlying hu]
     have VS:(if len≤1 then false else false:Bool)=false:=by split<;>rfl
     simp only[yO,and_self,if_true,Sem.run_bind,(hT el de nk).run_sizeOf w,Result.andThen_ok,Sem.run_pure,Int.toNat_natCast,ia]
    split at aq
    ·rename_i r off len sz k
     cases kF:Nat.beq sz de.size with
     |false=>simp[kF] at aq
     |true =>
      simp only[kF,cond_true] at aq
      have Cx:sz=de.size:=Nat.eq_of_beq_eq_true kF
      injection aq with aq;subst aq
      obtain⟨h1,h2⟩:=cb.cons
      have h2:k<len:=h2
      obtain⟨hL,⟨_,D1,_⟩|⟨b,c,hb,hv,_⟩⟩:=hp.ev x _ hx
      ·omega
      ·exact cY.pure (e := .ptr _ _) (cD rfl (exec _ _ _ _ k hv h1 h2)) ⟨hL,b,hb,by rw[Cx]⟩
    ·rename_i jj len sz k
     cases kF:Nat.beq sz de.size with
     |false=>simp[kF] at aq
     |true =>
      simp only[kF,cond_true] at aq
      have Cx:sz=de.size:=Nat.eq_of_beq_eq_true kF
      injection aq with aq;subst aq
      obtain⟨h1,h2⟩:=cb.cons
      have h2:k<len:=h2
      obtain⟨hL,⟨_,D1,_⟩|⟨b,c,hb,hv,_⟩⟩:=hp.ev x _ hx
      ·omega
      ·exact cY.pure (e := .nj _ _) (cD rfl (exec _ _ _ _ k hv h1 h2)) ⟨hL,b,hb,by rw[Cx,Nat.zero_add]⟩
    ·rename_i xs k row
     injection aq with aq;subst aq
     obtain⟨h1,cb⟩:=cb.cons
     obtain⟨h2,h3⟩:=cb.cons
     have h3:row.length=de.size:=h3
     have hr:Rd I w (.list xs) (a.eval x):=hp.ev x _ hx
     have bh:k<xs.length:=(List.getElem?_eq_some_iff.1 h2).1
     generalize qZ:a.eval x=v at hr
     cases hr with
     |nil=>simp at bh
     |list _ b o c s f hc hb hs ho hh =>
      have Q5:s=de.size:=by rw[←hs k row h2,h3]
      subst Q5
      refine cY.pure (e := .n6 _) (cD rfl (exec b o _ c k qZ h1 bh)) ⟨b,_,rfl,hb,fun j y hy => ?_⟩
      have g:=ho k j row y h2 hy
      refine⟨g.1,f k j,?_,hh k j row y h2 hy⟩
      rw[Nat.add_assoc]
      exact g.2
    ·cases aq
   ·cases aq
  ·rename_i len el hk
   obtain⟨un,hu,_,hf⟩:=(hT t d hd).under
   rw[hk] at hf
   obtain⟨hf,_,_⟩:=hf
   subst hf
   split at aq
   ·rename_i de nk
    split at aq
    ·rename_i r off k
     injection aq with aq;subst aq
     obtain⟨h1,h2⟩:=cb.cons
     have h2:k<len:=h2
     obtain⟨hL,b,hb,hv⟩:=hp.ev x _ hx
     refine cY.pure (e := .ptr _ _) (v := .pointer (some ⟨b,off+k*de.size,none⟩)) (cD rfl ?_) ⟨hL,b,hb,rfl⟩
     subst h1
     have yO:(0:Int)≤(k:Int)∧(k:Int)<(len:Int):=by omega
     rw[hv,QJ]
     unfold Instr.indexAt
     simp only[Sem.run_bind,asIntOf,Sem.run_pure,Result.andThen_ok,run_underlying hu,Instr.sureAddr]
     simp only[yO,and_self,if_true,Sem.run_bind,(hT el de nk).run_sizeOf w,Result.andThen_ok,Sem.run_pure,Int.toNat_natCast,ia]
    ·cases aq
   ·cases aq
  ·cases aq
 ·cases aq
theorem A0{x:Operand}{i:Nat}(hp:xR a w β L I aG ρ)(aq:b8 T aG dst (.extract x i) ρ h=some res) :
  cY P ⟨dst,.extract x i,ty,pos,after,guard⟩ a β L I w res:=by
 simp only[b8] at aq
 split at aq
 ·rename_i vs hx
  split at aq
  ·rename_i p VT
   rw[cx aq]
   have hr:Rd I w (.aE vs) (a.eval x):=hp.ev x _ hx
   generalize qZ:a.eval x=v at hr
   cases hr with
   |aE _ us hl hh =>
    have hi:i<us.size:=by rw[←hl];exact(List.getElem?_eq_some_iff.1 VT).1
    have hu:us[i]? = some us[i]:=Array.getElem?_eq_getElem hi
    refine cY.pure (e := .pv p) (cD rfl ?_) (hh i p _ VT hu)
    rw[qZ]
    simp[Instr.extract,hu]
  ·cases aq
 ·rename_i r off len sz ps hx
  obtain⟨us,qZ,kF,⟨u,Mp,Bv⟩,hh⟩:=hp.ev x _ hx
  cases i with
  |zero =>
   rw[cx aq]
   exact cY.pure (e := .row r off len sz) (cD rfl (by rw[qZ];simp[Instr.extract,Mp])) Bv
  |succ j =>
   simp only at aq
   split at aq
   ·rename_i p VU
    rw[cx aq]
    have hi:j+1<us.size:=by have:=(List.getElem?_eq_some_iff.1 VU).1;omega
    have hu:us[j+1]? = some us[j+1]:=Array.getElem?_eq_getElem hi
    exact cY.pure (e := .pv p) (cD rfl (by rw[qZ];simp[Instr.extract,hu])) (hh j p _ VU hu)
   ·cases aq
 ·cases aq
theorem vX{x:Operand}{xt t:TypeId}{ok:Bool}(hT:mC P T)(hp:xR a w β L I aG ρ)(aq:b8 T aG dst (.typeAssert x xt t ok) ρ h=some res) :
  cY P ⟨dst,.typeAssert x xt t ok,ty,pos,after,guard⟩ a β L I w res:=by
 cases ok with
 |false=>simp[b8] at aq
 |true =>
  simp only[b8] at aq
  split at aq
  ·rename_i d u p hd hx
   split at aq
   ·rename_i k hk
    cases hb:Nat.beq u t with
    |false=>simp[hb] at aq
    |true =>
     simp only[hb,cond_true] at aq
     have W6:u=t:=Nat.eq_of_beq_eq_true hb
     subst W6
     rw[cx aq]
     obtain⟨un,hu,_,hf⟩:=(hT u d hd).under
     rw[hk] at hf
     have hf:un = .int k:=hf
     subst hf
     have hr:Rd I w (.iface u p) (a.eval x):=hp.ev x _ hx
     generalize qZ:a.eval x=v at hr
     cases hr with
     |iface _ _ v hv =>
      refine cY.pure (e := .pv _) (v := .tuple #[v,.bool true]) (cD rfl ?_) (Rd.aE _ _ rfl (fun j c y hc hy => ?_))
      ·rw[qZ]
       simp[Instr.typeAssert,run_underlying hu]
      ·match j,hc,hy with
       |0,hc,hy=>simp at hc hy;subst hc hy;exact hv
       |1,hc,hy=>simp at hc hy;subst hc hy;exact .bool _
       |j+2,hc,hy=>simp at hc
   ·cases aq
  ·cases aq
theorem Mq{α:Type}{xs:Array α}{x:α}(h:xs.toList=[x]):xs = #[x]:=by
 apply Array.ext';simpa using h
theorem xV{α:Type}{xs:Array α}{x y:α}(h:xs.toList=[x,y]):xs = #[x,y]:=by
 apply Array.ext';simpa using h
theorem FT{c:Call}(hT:mC P T)(hp:xR a w β L I aG ρ)(aq:b8 T aG dst (.call c) ρ h=some res)(cb:dA res.ob) :
  cY P ⟨dst,.call c,ty,pos,after,guard⟩ a β L I w res:=by
 obtain⟨cl,args,JA⟩:=c
 simp only[b8] at aq
 split at aq
 ·rename_i x t jz FU
  have lN:=Mq jz
  have uH:=Mq FU
  subst lN;subst uH
  split at aq
  ·rename_i d e hd hx
   split at aq
   ·rename_i el n hk hn
    obtain⟨un,hu,_,hf⟩:=(hT t d hd).under
    rw[hk] at hf
    have hf:un = .slice el:=hf
    subst hf
    have hv:∃ao c,a.eval x = .slice ao n c:=by
     have he:=hp.ev x e hx
     cases e with
     |pv p =>
      cases p<;>simp[l5] at hn
      subst hn
      generalize a.eval x=v at he
      cases he with
      |nil ao c=>exact⟨ao,c,rfl⟩
      |list _ b o c s f=>exact⟨_,c,rfl⟩
     |row r off len sz =>
      simp[l5] at hn
      subst hn
      obtain⟨_,⟨_,rfl,hv⟩|⟨b,c,_,hv,_⟩⟩:=he
      ·exact⟨_,_,hv⟩
      ·exact⟨_,c,hv⟩
     |pg r len sz =>
      simp[l5] at hn
      subst hn
      obtain⟨_,⟨_,rfl,hv⟩|⟨b,c,_,hv,_⟩⟩:=he
      ·exact⟨_,_,hv⟩
      ·exact⟨_,c,hv⟩
     |nj _ _=>simp[l5] at hn
     |ptr _ _=>simp[l5] at hn
     |n6 _=>simp[l5] at hn
     |dead=>simp[l5] at hn
     |n7 _ _ _ _ _=>simp[l5] at hn
     |AT _ _=>simp[l5] at hn
    obtain⟨ao,c,hv⟩:=hv
    have exec:(execOp a.eval ⟨dst,.call ⟨.builtin .len,#[x],#[t]⟩,ty,pos,after,guard⟩).run P w = .ok (.value (.int .i64 n)) w:=by
     simp[execOp,resolve,invoke,builtin,Builtin.len_,hv,run_underlying hu,goInt]
    split at aq
    ·rename_i m
     injection aq with aq;subst aq
     have hm:(n:Int)=m:=cb
     rw[hm] at exec
     exact cY.pure (e := .pv _) exec (Rd.int _ _)
    ·rw[cx aq]
     exact cY.pure (e := .pv _) exec (Rd.int _ _)
   ·rename_i hk
    obtain⟨un,hu,_,hf⟩:=(hT t d hd).under
    rw[hk] at hf
    have hf:un = .string:=hf
    subst hf
    split at aq
    ·rename_i s m
     injection aq with aq;subst aq
     have hv:a.eval x = .string s:=by
      have he:Rd I w (.str s) (a.eval x):=hp.ev x _ hx
      generalize a.eval x=v at he
      cases he;rfl
     have hm:(s.size:Int)=m:=cb
     have exec:(execOp a.eval ⟨dst,.call ⟨.builtin .len,#[x],#[t]⟩,ty,pos,after,guard⟩).run P w = .ok (.value (.int .i64 s.size)) w:=by
      simp[execOp,resolve,invoke,builtin,Builtin.len_,hv,run_underlying hu,goInt]
     rw[hm] at exec
     exact cY.pure (e := .pv _) exec (Rd.int _ _)
    ·cases aq
   ·cases aq
  ·cases aq
 ·rename_i x y jz
  have lN:=xV jz
  subst lN
  split at aq
  ·rename_i k m k' m' OC r hx hy
   cases hkk:(decide (k=k')&&decide (k=OC)) with
   |false=>simp[hkk] at aq
   |true =>
    simp only[hkk,cond_true] at aq
    simp only[Bool.and_eq_true,decide_eq_true_eq] at hkk
    obtain⟨rfl,rfl⟩:=hkk
    injection aq with aq;subst aq
    have AU:a.eval x = .int k m:=rf (hp.ev x _ hx)
    have vT:a.eval y = .int k m':=rf (hp.ev y _ hy)
    have cb:(if m'>m then m' else m)=r:=cb
    refine cY.pure (e := .pv _) (v := .int k r) ?_ (Rd.int _ _)
    simp[execOp,resolve,invoke,builtin,Builtin.max_,Builtin.max2,AU,vT]
    exact cb
  ·cases aq
 ·rename_i x y jz
  have lN:=xV jz
  subst lN
  split at aq
  ·rename_i k m k' m' OC r hx hy
   cases hkk:(decide (k=k')&&decide (k=OC)) with
   |false=>simp[hkk] at aq
   |true =>
    simp only[hkk,cond_true] at aq
    simp only[Bool.and_eq_true,decide_eq_true_eq] at hkk
    obtain⟨rfl,rfl⟩:=hkk
    injection aq with aq;subst aq
    have AU:a.eval x = .int k m:=rf (hp.ev x _ hx)
    have vT:a.eval y = .int k m':=rf (hp.ev y _ hy)
    have cb:(if m'<m then m' else m)=r:=cb
    refine cY.pure (e := .pv _) (v := .int k r) ?_ (Rd.int _ _)
    simp[execOp,resolve,invoke,builtin,Builtin.min_,Builtin.min2,AU,vT]
    exact cb
  ·cases aq
 ·cases aq
theorem D3{t:TypeId}{x i:Operand}(hT:mC P T)(hp:xR a w β L I aG ρ)(aq:b8 T aG dst (.index t x i) ρ h=some res)(cb:dA res.ob) :
  cY P ⟨dst,.index t x i,ty,pos,after,guard⟩ a β L I w res:=by
 simp only[b8] at aq
 split at aq
 ·rename_i d cs ik n k row hd hx hi
  have QJ:a.eval i = .int ik n:=rf (hp.ev i _ hi)
  split at aq
  ·rename_i len el hk
   obtain⟨un,hu,_,hf⟩:=(hT t d hd).under
   rw[hk] at hf
   obtain⟨hf,yO,To⟩:=hf
   subst hf
   split at aq
   ·rename_i de nk
    cases hg:de.agg with
    |false=>simp[hg] at aq
    |true =>
     simp only[hg,cond_true] at aq
     injection aq with aq;subst aq
     obtain⟨h1,cb⟩:=cb.cons
     obtain⟨h2,cb⟩:=cb.cons
     obtain⟨h3,h4⟩:=cb.cons
     have h4:(cs.drop (k*de.size)).take de.size=row:=h4
     subst h1
     have hr:Rd I w (.agg cs) (a.eval x):=hp.ev x _ hx
     generalize qZ:a.eval x=v at hr
     cases hr with
     |agg _ us hl ho hh =>
      have hc:bQ I w cs us.toList:=⟨by simpa using hl,fun j c u hj Jz=>⟨ho j c hj,hh j c u hj (by simpa using Jz)⟩⟩
      have OH:=hT el de nk
      obtain⟨i,LW,tg,Mr,YI⟩:=OH.run_typeInfo (w:=w)
      have kF:P.cellsOf el=de.size:=by simp[Program.cellsOf,tg,Mr]
      obtain⟨Tp,Cw,Tq,_⟩:=OH.under
      have Tn:uE P el=true:=by
       unfold uE
       rw[Cw]
       show tH Tp=true
       exact Tq.trans hg
      have NP:yF cs (k*de.size) (P.cellsOf el) (uE P el)=some (.agg row):=by
       unfold yF
       rw[Tn,cond_true,kF,Nat.ble_eq_true_of_le h3,cond_true,h4]
      obtain⟨v,q1,q2⟩:=DR w yO To hc NP
      refine cY.pure (e := .pv (.agg row)) (cD rfl ?_) q2
      have bh:(0:Int)≤(k:Int)∧(k:Int)<(len:Int):=by omega
      rw[qZ,QJ]
      unfold Instr.index
      simp only[Sem.run_bind,asIntOf,Sem.run_pure,Result.andThen_ok,run_underlying hu]
      rw[if_pos bh]
      simp only[Sem.run_bind,OH.run_sizeOf w,Result.andThen_ok,Int.toNat_natCast]
      exact q1
   ·cases aq
  ·cases aq
 ·rename_i d s ik n k m hd hx hi
  have QJ:a.eval i = .int ik n:=rf (hp.ev i _ hi)
  have AU:a.eval x = .string s:=by
   have hr:Rd I w (.str s) (a.eval x):=hp.ev x _ hx
   generalize a.eval x=v at hr
   cases hr;rfl
  split at aq
  ·rename_i hk
   obtain⟨un,hu,_,hf⟩:=(hT t d hd).under
   rw[hk] at hf
   have hf:un = .string:=hf
   subst hf
   injection aq with aq;subst aq
   obtain⟨h1,h2⟩:=cb.cons
   have h2:(s.data.toList[k]?).map (fun b=>(b.toNat:Int))=some m:=h2
   subst h1
   cases hb:s.data.toList[k]? with
   |none=>rw[hb] at h2;cases h2
   |some b =>
    rw[hb] at h2
    simp only[Option.map_some,Option.some.injEq] at h2
    refine cY.pure (e := .pv _) (v := .int .u8 m) (cD rfl ?_) (Rd.int _ _)
    rw[QJ,AU]
    have s5:s[k]? = some b:=by
     have bh:k<s.data.size:=by simpa using(List.getElem?_eq_some_iff.1 hb).1
     have Tr:k<s.size:=bh
     rw[getElem?_pos s k Tr]
     congr 1
     have h3:=(List.getElem?_eq_some_iff.1 hb).2
     have h4:s.data[k]=b:=by simpa using h3
     exact h4
    unfold Instr.index
    simp only[Sem.run_bind,asIntOf,Sem.run_pure,Result.andThen_ok,run_underlying hu,Int.toNat_natCast]
    rw[if_pos (by omega),s5]
    simp[h2]
  ·cases aq
 ·cases aq
theorem yP{fn:Fn}{first cap:Array Operand}(hp:xR a w β L I aG ρ)(aq:b8 T aG dst (.makeFunc fn first cap) ρ h=some res) :
  cY P ⟨dst,.makeFunc fn first cap,ty,pos,after,guard⟩ a β L I w res:=by
 simp only[b8] at aq
 split at aq
 ·rename_i f x h1 h2
  have Ts:first = #[]:=by apply Array.ext';simpa using h1
  have Tt:=Mq h2
  subst Ts;subst Tt
  split at aq
  ·rename_i r hx
   rw[cx aq]
   obtain⟨hl,b,hb,hv⟩:=hp.ev x _ hx
   refine cY.pure (e := .AT f r) (v := .func (.func f) #[] #[.pointer (some ⟨b,0,none⟩)]) ?_ ⟨hl,b,hb,rfl⟩
   simp[execOp,Instr.makeFunc,hv]
  ·cases aq
 ·rename_i f h1 h2
  have Ts:first = #[]:=by apply Array.ext';simpa using h1
  have Tt:cap = #[]:=by apply Array.ext';simpa using h2
  subst Ts;subst Tt
  rw[cx aq]
  refine cY.pure (e := .pv _) (v := .func (.func f) #[] #[]) ?_ (Rd.fn _)
  simp[execOp,Instr.makeFunc]
 ·cases aq
theorem xa(hT:mC P T)(hp:xR a w β L I aG ρ){o:Oper}(aq:b8 T aG o.dst o.op ρ h=some res)(cb:dA res.ob):cY P o a β L I w res:=by
 obtain⟨dst,op,ty,pos,after,guard⟩:=o
 cases op
 case move x=>exact FN hp aq
 case makeFunc fn f1 cap=>exact yP hp aq
 case assign x=>exact Cu hp aq
 case pick c x y=>exact FO hp aq cb
 case alloc t=>exact DV hT hp aq
 case box t x=>exact Il hp aq
 case build t ps=>exact DW hT hp aq
 case buildSlice t n ps=>exact vS hT hp aq cb
 case load t x=>exact FQ hT hp aq cb
 case nilCheck x=>exact yN hp aq
 case binOp op t x y yt=>exact DY hT hp aq cb
 case unOp op t x=>exact FR hp aq cb
 case convert s t x=>exact AZ hT hp aq cb
 case makeInterface t x=>exact s4 hT hp aq
 case makeSlice t x y=>exact xS hT hp aq cb
 case slice t x lo hi mx=>exact D0 hT hp aq cb
 case fieldAddr t x f=>exact xT hT hp aq
 case field t x f=>exact D2 hT hp aq
 case indexAddr t x i=>exact xU hT hp aq cb
 case index t x i=>exact D3 hT hp aq cb
 case extract x i=>exact A0 hp aq
 case typeAssert x xt t ok=>exact vX hT hp aq
 case call c=>exact FT hT hp aq cb
 all_goals (exfalso;simp[b8] at aq)
end
end Go.Proofs.YtllmkadmohkbfaaGreatDoor.Sym
