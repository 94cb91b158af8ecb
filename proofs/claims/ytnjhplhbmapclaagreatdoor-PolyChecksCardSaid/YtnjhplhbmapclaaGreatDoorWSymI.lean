/- Lemmas for the statements of this seat. -/
import Derived.Test.YtnjhplhbmapclaaGreatDoorWSymH
namespace Go.Proofs.YtnjhplhbmapclaaGreatDoor.Sym
open Go Go.RowKit
section
variable {P:Program} {T:gi} {a:Act} {w:World} {β:Nat→Option Nat} {L I:Nat→Prop} {aw:aD} {ρ:Operand→Option EV} {h:Hint} {res:jv}
variable {dst:Option Tmp} {ty:TypeId} {pos:String} {after:Array Edge} {guard:Option (Nat×Bool)}
theorem lP{t:TypeId}{d:TD}{fs:List (Nat×Nat×Bool)}{f off size:Nat}{agg:Bool}(hd:ko P t d)(hk:d.kind = .struct fs)(hf:fs[f]? = some (off,size,agg)) :
  ∃ff fl,P.underlying t=some (.struct ff)∧ff[f]? = some fl∧fl.offset=off∧P.cellsOf fl.type=size∧o6 P fl.type=agg∧(P.info? fl.type).isSome=true∧(P.underlying fl.type).isSome=true:=by
 obtain⟨u,hu,_,Em⟩:=hd.under
 rw[hk] at Em
 obtain⟨ff,rfl,h1,h2⟩:=Em
 rw[←h1,List.getElem?_map] at hf
 cases hx:ff.toList[f]? with
 |none=>rw[hx] at hf;cases hf
 |some fl =>
  rw[hx] at hf
  simp only[Option.map_some,Option.some.injEq,Prod.mk.injEq] at hf
  have hm:fl∈ff:=by simpa using List.mem_of_getElem? hx
  exact⟨ff,fl,hu,by simpa using hx,hf.1,hf.2.1,hf.2.2,h2 fl hm⟩
theorem rZ{t:TypeId}{x:Operand}{f:Nat}(hT:jh P T)(hp:rW a w β L I aw ρ)(ai:bk T aw dst (.fieldAddr t x f) ρ h=some res) :
  bJ P ⟨dst,.fieldAddr t x f,ty,pos,after,guard⟩ a β L I w res:=by
 simp only[bk] at ai
 split at ai
 ·rename_i d e hd hx
  split at ai
  ·rename_i fs hk
   split at ai
   ·rename_i off size agg hf
    obtain⟨ff,fl,hu,B7,CC,gn,_,sZ,_⟩:=lP (hT t d hd) hk hf
    cases hs:Nat.ble 1 size with
    |false=>simp[hs] at ai
    |true =>
     simp only[hs,cond_true] at ai
     have Cy:1≤size:=Nat.le_of_ble_eq_true hs
     have exec:∀b o,a.eval x = .pointer (some ⟨b,o,none⟩)→(Instr.fieldAt t (a.eval x) f).run P w = .ok (.pointer (some ⟨b,o+off,none⟩)) w:=by
      intro b o hv
      obtain⟨i,hi⟩:=Option.isSome_iff_exists.1 sZ
      have pf:(sizeOf fl.type).run P w = .ok (P.cellsOf fl.type) w:=by simp[sizeOf,typeInfo,hi,Program.cellsOf]
      rw[hv]
      unfold Instr.fieldAt
      simp only[Sem.run_bind,run_underlying hu,Result.andThen_ok,B7,Instr.sureAddr,Sem.run_pure,fieldPlace,pf]
      rw[if_neg (by omega)]
      simp only[Sem.run_pure,Result.andThen_ok,dC,CC]
     split at ai
     ·rename_i r o
      rw[br ai]
      obtain⟨hL,b,hb,hv⟩:=hp.ev x _ hx
      exact bJ.pure (e := .ptr _ _) (bn rfl (exec _ _ hv)) ⟨hL,b,hb,rfl⟩
     ·rename_i cs
      rw[br ai]
      obtain⟨b,o,hv,hb,hc⟩:=hp.ev x _ hx
      refine bJ.pure (e := .jD _) (bn rfl (exec _ _ hv)) ⟨b,o+off,rfl,hb,fun j y hy => ?_⟩
      rw[List.getElem?_drop] at hy
      have:=hc _ y hy
      rw[Nat.add_assoc]
      exact this
     ·rename_i r o
      rw[br ai]
      obtain⟨hL,b,hb,hv⟩:=hp.ev x _ hx
      exact bJ.pure (e := .jg _ _) (bn rfl (exec _ _ hv)) ⟨hL,b,hb,rfl⟩
     ·cases ai
   ·cases ai
  ·cases ai
 ·cases ai
theorem xu{t:TypeId}{x:Operand}{f:Nat}(hT:jh P T)(hp:rW a w β L I aw ρ)(ai:bk T aw dst (.field t x f) ρ h=some res) :
  bJ P ⟨dst,.field t x f,ty,pos,after,guard⟩ a β L I w res:=by
 simp only[bk] at ai
 split at ai
 ·rename_i d cs hd hx
  split at ai
  ·rename_i fs hk
   split at ai
   ·rename_i off size agg hf
    split at ai
    ·rename_i p Io
     rw[br ai]
     obtain⟨ff,fl,hu,B7,CC,gn,Kv,sZ,Kw⟩:=lP (hT t d hd) hk hf
     have hr:Rd I w (.agg cs) (a.eval x):=hp.ev x _ hx
     generalize sS:a.eval x=v at hr
     cases hr with
     |agg _ us hl ho hh =>
      have hc:aV I w cs us.toList:=⟨by simpa using hl,fun j c u hj yM=>⟨ho j c hj,hh j c u hj (by simpa using yM)⟩⟩
      subst CC;subst gn;subst Kv
      obtain⟨v,h1,h2⟩:=xf w sZ Kw hc Io
      refine bJ.pure (e := .pv p) (bn rfl ?_) h2
      rw[sS]
      unfold Instr.field
      simp only[Sem.run_bind,run_underlying hu,Result.andThen_ok,B7,asAgg,Sem.run_pure]
      exact h1
    ·cases ai
   ·cases ai
  ·cases ai
 ·cases ai
theorem r4{t:TypeId}{x i:Operand}(hT:jh P T)(hp:rW a w β L I aw ρ)(ai:bk T aw dst (.indexAddr t x i) ρ h=some res)(bj:bV res.ob) :
  bJ P ⟨dst,.indexAddr t x i,ty,pos,after,guard⟩ a β L I w res:=by
 simp only[bk] at ai
 split at ai
 ·rename_i d e ik n hd hx hi
  have Ip:a.eval i = .int ik n:=mL (hp.ev i _ hi)
  split at ai
  ·rename_i el hk
   obtain⟨un,hu,_,hf⟩:=(hT t d hd).under
   rw[hk] at hf
   have hf:un = .slice el:=hf
   subst hf
   split at ai
   ·rename_i de kp
    have exec:∀(b o len c k:Nat),a.eval x = .slice (some ⟨b,o,none⟩) len c→n=(k:Int)→k<len→(Instr.indexAt t (a.eval x) (a.eval i)).run P w = .ok (.pointer (some ⟨b,o+k*de.size,none⟩)) w:=by
     intro b o len c k hv hn hk
     subst hn
     have sZ:(0:Int)≤(k:Int)∧(k:Int)<(len:Int):=by omega
     rw[hv,Ip]
     unfold Instr.indexAt
     simp only[Sem.run_bind,asIntOf,Sem.run_pure,Result.andThen_ok,run_underlying hu]
     have Mv:(if len≤1 then false else false:Bool)=false:=by split<;>rfl
     simp only[sZ,and_self,if_true,Sem.run_bind,(hT el de kp).run_sizeOf w,Result.andThen_ok,Sem.run_pure,Int.toNat_natCast,dC]
    split at ai
    ·rename_i r off len sz k
     cases gn:Nat.beq sz de.size with
     |false=>simp[gn] at ai
     |true =>
      simp only[gn,cond_true] at ai
      have vZ:sz=de.size:=Nat.eq_of_beq_eq_true gn
      injection ai with ai;subst ai
      obtain⟨h1,h2⟩:=bj.cons
      have h2:k<len:=h2
      obtain⟨hL,⟨_,xr,_⟩|⟨b,c,hb,hv,_⟩⟩:=hp.ev x _ hx
      ·omega
      ·exact bJ.pure (e := .ptr _ _) (bn rfl (exec _ _ _ _ k hv h1 h2)) ⟨hL,b,hb,by rw[vZ]⟩
    ·rename_i jj len sz k
     cases gn:Nat.beq sz de.size with
     |false=>simp[gn] at ai
     |true =>
      simp only[gn,cond_true] at ai
      have vZ:sz=de.size:=Nat.eq_of_beq_eq_true gn
      injection ai with ai;subst ai
      obtain⟨h1,h2⟩:=bj.cons
      have h2:k<len:=h2
      obtain⟨hL,⟨_,xr,_⟩|⟨b,c,hb,hv,_⟩⟩:=hp.ev x _ hx
      ·omega
      ·exact bJ.pure (e := .jg _ _) (bn rfl (exec _ _ _ _ k hv h1 h2)) ⟨hL,b,hb,by rw[vZ,Nat.zero_add]⟩
    ·rename_i xs k row
     injection ai with ai;subst ai
     obtain⟨h1,bj⟩:=bj.cons
     obtain⟨h2,h3⟩:=bj.cons
     have h3:row.length=de.size:=h3
     have hr:Rd I w (.list xs) (a.eval x):=hp.ev x _ hx
     have cS:k<xs.length:=(List.getElem?_eq_some_iff.1 h2).1
     generalize sS:a.eval x=v at hr
     cases hr with
     |nil=>simp at cS
     |list _ b o c s f hc hb hs ho hh =>
      have II:s=de.size:=by rw[←hs k row h2,h3]
      subst II
      refine bJ.pure (e := .jD _) (bn rfl (exec b o _ c k sS h1 cS)) ⟨b,_,rfl,hb,fun j y hy => ?_⟩
      have g:=ho k j row y h2 hy
      refine⟨g.1,f k j,?_,hh k j row y h2 hy⟩
      rw[Nat.add_assoc]
      exact g.2
    ·cases ai
   ·cases ai
  ·rename_i len el hk
   obtain⟨un,hu,_,hf⟩:=(hT t d hd).under
   rw[hk] at hf
   obtain⟨hf,_,_⟩:=hf
   subst hf
   split at ai
   ·rename_i de kp
    split at ai
    ·rename_i r off k
     injection ai with ai;subst ai
     obtain⟨h1,h2⟩:=bj.cons
     have h2:k<len:=h2
     obtain⟨hL,b,hb,hv⟩:=hp.ev x _ hx
     refine bJ.pure (e := .ptr _ _) (v := .pointer (some ⟨b,off+k*de.size,none⟩)) (bn rfl ?_) ⟨hL,b,hb,rfl⟩
     subst h1
     have sZ:(0:Int)≤(k:Int)∧(k:Int)<(len:Int):=by omega
     rw[hv,Ip]
     unfold Instr.indexAt
     simp only[Sem.run_bind,asIntOf,Sem.run_pure,Result.andThen_ok,run_underlying hu,Instr.sureAddr]
     simp only[sZ,and_self,if_true,Sem.run_bind,(hT el de kp).run_sizeOf w,Result.andThen_ok,Sem.run_pure,Int.toNat_natCast,dC]
    ·cases ai
   ·cases ai
  ·cases ai
 ·cases ai
theorem uJ{x:Operand}{i:Nat}(hp:rW a w β L I aw ρ)(ai:bk T aw dst (.extract x i) ρ h=some res) :
  bJ P ⟨dst,.extract x i,ty,pos,after,guard⟩ a β L I w res:=by
 simp only[bk] at ai
 split at ai
 ·rename_i vs hx
  split at ai
  ·rename_i p Mw
   rw[br ai]
   have hr:Rd I w (.aY vs) (a.eval x):=hp.ev x _ hx
   generalize sS:a.eval x=v at hr
   cases hr with
   |aY _ us hl hh =>
    have hi:i<us.size:=by rw[←hl];exact(List.getElem?_eq_some_iff.1 Mw).1
    have hu:us[i]? = some us[i]:=Array.getElem?_eq_getElem hi
    refine bJ.pure (e := .pv p) (bn rfl ?_) (hh i p _ Mw hu)
    rw[sS]
    simp[Instr.extract,hu]
  ·cases ai
 ·rename_i r off len sz ps hx
  obtain⟨us,sS,gn,⟨u,GH,B5⟩,hh⟩:=hp.ev x _ hx
  cases i with
  |zero =>
   rw[br ai]
   exact bJ.pure (e := .row r off len sz) (bn rfl (by rw[sS];simp[Instr.extract,GH])) B5
  |succ j =>
   simp only at ai
   split at ai
   ·rename_i p Mx
    rw[br ai]
    have hi:j+1<us.size:=by have:=(List.getElem?_eq_some_iff.1 Mx).1;omega
    have hu:us[j+1]? = some us[j+1]:=Array.getElem?_eq_getElem hi
    exact bJ.pure (e := .pv p) (bn rfl (by rw[sS];simp[Instr.extract,hu])) (hh j p _ Mx hu)
   ·cases ai
 ·cases ai
theorem qy{x:Operand}{xt t:TypeId}{ok:Bool}(hT:jh P T)(hp:rW a w β L I aw ρ)(ai:bk T aw dst (.typeAssert x xt t ok) ρ h=some res) :
  bJ P ⟨dst,.typeAssert x xt t ok,ty,pos,after,guard⟩ a β L I w res:=by
 cases ok with
 |false=>simp[bk] at ai
 |true =>
  simp only[bk] at ai
  split at ai
  ·rename_i d u p hd hx
   split at ai
   ·rename_i k hk
    cases hb:Nat.beq u t with
    |false=>simp[hb] at ai
    |true =>
     simp only[hb,cond_true] at ai
     have NA:u=t:=Nat.eq_of_beq_eq_true hb
     subst NA
     rw[br ai]
     obtain⟨un,hu,_,hf⟩:=(hT u d hd).under
     rw[hk] at hf
     have hf:un = .int k:=hf
     subst hf
     have hr:Rd I w (.iface u p) (a.eval x):=hp.ev x _ hx
     generalize sS:a.eval x=v at hr
     cases hr with
     |iface _ _ v hv =>
      refine bJ.pure (e := .pv _) (v := .tuple #[v,.bool true]) (bn rfl ?_) (Rd.aY _ _ rfl (fun j c y hc hy => ?_))
      ·rw[sS]
       simp[Instr.typeAssert,run_underlying hu]
      ·match j,hc,hy with
       |0,hc,hy=>simp at hc hy;subst hc hy;exact hv
       |1,hc,hy=>simp at hc hy;subst hc hy;exact .bool _
       |j+2,hc,hy=>simp at hc
   ·cases ai
  ·cases ai
theorem EK{α:Type}{xs:Array α}{x:α}(h:xs.toList=[x]):xs = #[x]:=by
 apply Array.ext';simpa using h
theorem r5{α:Type}{xs:Array α}{x y:α}(h:xs.toList=[x,y]):xs = #[x,y]:=by
 apply Array.ext';simpa using h
theorem yV{c:Call}(hT:jh P T)(hp:rW a w β L I aw ρ)(ai:bk T aw dst (.call c) ρ h=some res)(bj:bV res.ob) :
  bJ P ⟨dst,.call c,ty,pos,after,guard⟩ a β L I w res:=by
 obtain⟨cl,args,CD⟩:=c
 simp only[bk] at ai
 split at ai
 ·rename_i x t fM yW
  have iw:=EK fM
  have pg:=EK yW
  subst iw;subst pg
  split at ai
  ·rename_i d e hd hx
   split at ai
   ·rename_i el n hk hn
    obtain⟨un,hu,_,hf⟩:=(hT t d hd).under
    rw[hk] at hf
    have hf:un = .slice el:=hf
    subst hf
    have hv:∃ao c,a.eval x = .slice ao n c:=by
     have he:=hp.ev x e hx
     cases e with
     |pv p =>
      cases p<;>simp[gR] at hn
      subst hn
      generalize a.eval x=v at he
      cases he with
      |nil ao c=>exact⟨ao,c,rfl⟩
      |list _ b o c s f=>exact⟨_,c,rfl⟩
     |row r off len sz =>
      simp[gR] at hn
      subst hn
      obtain⟨_,⟨_,rfl,hv⟩|⟨b,c,_,hv,_⟩⟩:=he
      ·exact⟨_,_,hv⟩
      ·exact⟨_,c,hv⟩
     |km r len sz =>
      simp[gR] at hn
      subst hn
      obtain⟨_,⟨_,rfl,hv⟩|⟨b,c,_,hv,_⟩⟩:=he
      ·exact⟨_,_,hv⟩
      ·exact⟨_,c,hv⟩
     |jg _ _=>simp[gR] at hn
     |ptr _ _=>simp[gR] at hn
     |jD _=>simp[gR] at hn
     |dead=>simp[gR] at hn
     |jE _ _ _ _ _=>simp[gR] at hn
     |sk _ _=>simp[gR] at hn
     |jF _=>simp[gR] at hn
    obtain⟨ao,c,hv⟩:=hv
    have exec:(execOp a.eval ⟨dst,.call ⟨.builtin .len,#[x],#[t]⟩,ty,pos,after,guard⟩).run P w = .ok (.value (.int .i64 n)) w:=by
     simp[execOp,resolve,invoke,builtin,Builtin.len_,hv,run_underlying hu,goInt]
    split at ai
    ·rename_i m
     injection ai with ai;subst ai
     have hm:(n:Int)=m:=bj
     rw[hm] at exec
     exact bJ.pure (e := .pv _) exec (Rd.int _ _)
    ·rw[br ai]
     exact bJ.pure (e := .pv _) exec (Rd.int _ _)
   ·rename_i hk
    obtain⟨un,hu,_,hf⟩:=(hT t d hd).under
    rw[hk] at hf
    have hf:un = .string:=hf
    subst hf
    split at ai
    ·rename_i s m
     injection ai with ai;subst ai
     have hv:a.eval x = .string s:=by
      have he:Rd I w (.str s) (a.eval x):=hp.ev x _ hx
      generalize a.eval x=v at he
      cases he;rfl
     have hm:(s.size:Int)=m:=bj
     have exec:(execOp a.eval ⟨dst,.call ⟨.builtin .len,#[x],#[t]⟩,ty,pos,after,guard⟩).run P w = .ok (.value (.int .i64 s.size)) w:=by
      simp[execOp,resolve,invoke,builtin,Builtin.len_,hv,run_underlying hu,goInt]
     rw[hm] at exec
     exact bJ.pure (e := .pv _) exec (Rd.int _ _)
    ·cases ai
   ·cases ai
  ·cases ai
 ·rename_i x y fM
  have iw:=r5 fM
  subst iw
  split at ai
  ·rename_i k m k' m' GA r hx hy
   cases uF:(decide (k=k')&&decide (k=GA)) with
   |false=>simp[uF] at ai
   |true =>
    simp only[uF,cond_true] at ai
    simp only[Bool.and_eq_true,decide_eq_true_eq] at uF
    obtain⟨rfl,rfl⟩:=uF
    injection ai with ai;subst ai
    have uD:a.eval x = .int k m:=mL (hp.ev x _ hx)
    have qw:a.eval y = .int k m':=mL (hp.ev y _ hy)
    have bj:(if m'>m then m' else m)=r:=bj
    refine bJ.pure (e := .pv _) (v := .int k r) ?_ (Rd.int _ _)
    simp[execOp,resolve,invoke,builtin,Builtin.max_,Builtin.max2,uD,qw]
    exact bj
  ·cases ai
 ·rename_i x y fM
  have iw:=r5 fM
  subst iw
  split at ai
  ·rename_i k m k' m' GA r hx hy
   cases uF:(decide (k=k')&&decide (k=GA)) with
   |false=>simp[uF] at ai
   |true =>
    simp only[uF,cond_true] at ai
    simp only[Bool.and_eq_true,decide_eq_true_eq] at uF
    obtain⟨rfl,rfl⟩:=uF
    injection ai with ai;subst ai
    have uD:a.eval x = .int k m:=mL (hp.ev x _ hx)
    have qw:a.eval y = .int k m':=mL (hp.ev y _ hy)
    have bj:(if m'<m then m' else m)=r:=bj
    refine bJ.pure (e := .pv _) (v := .int k r) ?_ (Rd.int _ _)
    simp[execOp,resolve,invoke,builtin,Builtin.min_,Builtin.min2,uD,qw]
    exact bj
  ·cases ai
 ·cases ai
theorem xv{t:TypeId}{x i:Operand}(hT:jh P T)(hp:rW a w β L I aw ρ)(ai:bk T aw dst (.index t x i) ρ h=some res)(bj:bV res.ob) :
  bJ P ⟨dst,.index t x i,ty,pos,after,guard⟩ a β L I w res:=by
 simp only[bk] at ai
 split at ai
 ·rename_i d cs ik n k row hd hx hi
  have Ip:a.eval i = .int ik n:=mL (hp.ev i _ hi)
  split at ai
  ·rename_i len el hk
   obtain⟨un,hu,_,hf⟩:=(hT t d hd).under
   rw[hk] at hf
   obtain⟨hf,sZ,Kw⟩:=hf
   subst hf
   split at ai
   ·rename_i de kp
    cases hg:de.agg with
    |false=>simp[hg] at ai
    |true =>
     simp only[hg,cond_true] at ai
     injection ai with ai;subst ai
     obtain⟨h1,bj⟩:=bj.cons
     obtain⟨h2,bj⟩:=bj.cons
     obtain⟨h3,h4⟩:=bj.cons
     have h4:(cs.drop (k*de.size)).take de.size=row:=h4
     subst h1
     have hr:Rd I w (.agg cs) (a.eval x):=hp.ev x _ hx
     generalize sS:a.eval x=v at hr
     cases hr with
     |agg _ us hl ho hh =>
      have hc:aV I w cs us.toList:=⟨by simpa using hl,fun j c u hj yM=>⟨ho j c hj,hh j c u hj (by simpa using yM)⟩⟩
      have GI:=hT el de kp
      obtain⟨i,Pb,vd,Iq,Pc⟩:=GI.run_typeInfo (w:=w)
      have gn:P.cellsOf el=de.size:=by simp[Program.cellsOf,vd,Iq]
      obtain⟨Kx,xn,Ky,_⟩:=GI.under
      have Kv:o6 P el=true:=by
       unfold o6
       rw[xn]
       show mH Kx=true
       exact Ky.trans hg
      have Io:sJ cs (k*de.size) (P.cellsOf el) (o6 P el)=some (.agg row):=by
       unfold sJ
       rw[Kv,cond_true,gn,Nat.ble_eq_true_of_le h3,cond_true,h4]
      obtain⟨v,q1,q2⟩:=xf w sZ Kw hc Io
      refine bJ.pure (e := .pv (.agg row)) (bn rfl ?_) q2
      have cS:(0:Int)≤(k:Int)∧(k:Int)<(len:Int):=by omega
      rw[sS,Ip]
      unfold Instr.index
      simp only[Sem.run_bind,asIntOf,Sem.run_pure,Result.andThen_ok,run_underlying hu]
      rw[if_pos cS]
      simp only[Sem.run_bind,GI.run_sizeOf w,Result.andThen_ok,Int.toNat_natCast]
      exact q1
   ·cases ai
  ·cases ai
 ·rename_i d s ik n k m hd hx hi
  have Ip:a.eval i = .int ik n:=mL (hp.ev i _ hi)
  have uD:a.eval x = .string s:=by
   have hr:Rd I w (.str s) (a.eval x):=hp.ev x _ hx
   generalize a.eval x=v at hr
   cases hr;rfl
  split at ai
  ·rename_i hk
   obtain⟨un,hu,_,hf⟩:=(hT t d hd).under
   rw[hk] at hf
   have hf:un = .string:=hf
   subst hf
   injection ai with ai;subst ai
   obtain⟨h1,h2⟩:=bj.cons
   have h2:(s.data.toList[k]?).map (fun b=>(b.toNat:Int))=some m:=h2
   subst h1
   cases hb:s.data.toList[k]? with
   |none=>rw[hb] at h2;cases h2
   |some b =>
    rw[hb] at h2
    simp only[Option.map_some,Option.some.injEq] at h2
    refine bJ.pure (e := .pv _) (v := .int .u8 m) (bn rfl ?_) (Rd.int _ _)
    rw[Ip,uD]
    have nY:s[k]? = some b:=by
     have cS:k<s.data.size:=by simpa using(List.getElem?_eq_some_iff.1 hb).1
     have Kz:k<s.size:=cS
     rw[getElem?_pos s k Kz]
     congr 1
     have h3:=(List.getElem?_eq_some_iff.1 hb).2
     have h4:s.data[k]=b:=by simpa using h3
     exact h4
    unfold Instr.index
    simp only[Sem.run_bind,asIntOf,Sem.run_pure,Result.andThen_ok,run_underlying hu,Int.toNat_natCast]
    rw[if_pos (by omega),nY]
    simp[h2]
  ·cases ai
 ·cases ai
theorem s4{fn:Fn}{first cap:Array Operand}(hp:rW a w β L I aw ρ)(ai:bk T aw dst (.makeFunc fn first cap) ρ h=some res) :
  bJ P ⟨dst,.makeFunc fn first cap,ty,pos,after,guard⟩ a β L I w res:=by
 simp only[bk] at ai
 split at ai
 ·rename_i f x h1 h2
  have KA:first = #[]:=by apply Array.ext';simpa using h1
  have KB:=EK h2
  subst KA;subst KB
  split at ai
  ·rename_i r hx
   rw[br ai]
   obtain⟨hl,b,hb,hv⟩:=hp.ev x _ hx
   refine bJ.pure (e := .sk f r) (v := .func (.func f) #[] #[.pointer (some ⟨b,0,none⟩)]) ?_ ⟨hl,b,hb,rfl⟩
   simp[execOp,Instr.makeFunc,hv]
  ·cases ai
 ·rename_i f h1 h2
  have KA:first = #[]:=by apply Array.ext';simpa using h1
  have KB:cap = #[]:=by apply Array.ext';simpa using h2
  subst KA;subst KB
  rw[br ai]
  refine bJ.pure (e := .pv _) (v := .func (.func f) #[] #[]) ?_ (Rd.fn _)
  simp[execOp,Instr.makeFunc]
 ·cases ai
theorem rj(hT:jh P T)(hp:rW a w β L I aw ρ){o:Oper}(ai:bk T aw o.dst o.op ρ h=some res)(bj:bV res.ob):bJ P o a β L I w res:=by
 obtain⟨dst,op,ty,pos,after,guard⟩:=o
 cases op
 case move x=>exact yQ hp ai
 case makeFunc fn f1 cap=>exact s4 hp ai
 case assign x=>exact vX hp ai
 case pick c x y=>exact yR hp ai bj
 case alloc t=>exact xk hT hp ai
 case box t x=>exact Bo hp ai
 case build t ps=>exact xl hT hp ai
 case buildSlice t n ps=>exact qv hT hp ai bj
 case load t x=>exact yS hT hp ai bj
 case nilCheck x=>exact sY hp ai
 case binOp op t x y yt=>exact xo hT hp ai bj
 case unOp op t x=>exact yT hp ai bj
 case convert s t x=>exact uI hT hp ai bj
 case makeInterface t x=>exact nX hT hp ai
 case makeSlice t x y=>exact rY hT hp ai bj
 case slice t x lo hi mx=>exact xq hT hp ai bj
 case fieldAddr t x f=>exact rZ hT hp ai
 case field t x f=>exact xu hT hp ai
 case indexAddr t x i=>exact r4 hT hp ai bj
 case index t x i=>exact xv hT hp ai bj
 case extract x i=>exact uJ hp ai
 case typeAssert x xt t ok=>exact qy hT hp ai
 case call c=>exact yV hT hp ai bj
 all_goals (exfalso;simp[bk] at ai)
end
end Go.Proofs.YtnjhplhbmapclaaGreatDoor.Sym
