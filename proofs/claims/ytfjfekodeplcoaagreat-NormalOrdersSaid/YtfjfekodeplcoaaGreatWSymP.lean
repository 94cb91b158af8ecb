/- Lemmas for the statements of this seat. -/
import Derived.Test.YtfjfekodeplcoaaGreatWSymO
namespace Go.Proofs.YtfjfekodeplcoaaGreat.Sym
open Go Go.RowKit
theorem pj{ρ ρ':Operand→Option EV} : ∀{l:List (Nat×Operand)},(∀x∈l.map (·.2),ρ' x=ρ x)→oC ρ' l=oC ρ l
 |[],_=>rfl
 |(i,x)::r,h=>by
  unfold oC
  rw[h x (by simp),pj (l:=r) (fun y hy=>h y (by simp at hy ⊢;exact .inr hy))]
theorem sR{ρ ρ':Operand→Option EV} : ∀{l:List (Nat×Operand)},(∀x∈l.map (·.2),ρ' x=ρ x)→qj ρ' l=qj ρ l
 |[],_=>rfl
 |(i,x)::r,h=>by
  unfold qj
  rw[h x (by simp),sR (l:=r) (fun y hy=>h y (by simp at hy ⊢;exact .inr hy))]
theorem Cx{T:jZ}{sto sto':aN}{dst:Option Nat}{op:Op}{ρ ρ':Operand→Option EV}{h:Hint}(hx:∀x∈op.operands,ρ' x=ρ x)
  (hs:∀t x r off,op = .load t x→ρ x=some (.ptr r off)→sto'.get r=sto.get r):b9 T sto' dst op ρ' h=b9 T sto dst op ρ h:=by
 cases op<;>simp only[Op.operands] at hx<;>simp only[b9]
 case move x=>rw[hx x (by simp)]
 case assign x=>rw[hx x (by simp)]
 case pick c a b =>
  have h1:=hx c (by simp)
  have h2:=hx a (by simp)
  have h3:=hx b (by simp)
  have h4:∀d:Bool,ρ' (bif d then a else b)=ρ (bif d then a else b):=fun d=>by cases d<;>simp[h2,h3]
  rw[h1]
  simp only[h4]
 case box t x=>rw[hx x (by simp)]
 case build t ps=>rw[pj (fun x uk=>hx x (by simpa using uk)),sR (fun x uk=>hx x (by simpa using uk))]
 case buildSlice t n ps=>rw[pj (fun x uk=>hx x (by simpa using uk))]
 case load t x =>
  have h1:=hx x (by simp)
  rw[h1]
  cases T.get t with
  |none=>rfl
  |some d =>
   cases hr:ρ x with
   |none=>rfl
   |some e =>
    cases e with
    |ptr r off=>simp only[hs t x r off rfl hr]
    |_=>rfl
 case nilCheck x=>rw[hx x (by simp)]
 case binOp op t x y yt=>rw[hx x (by simp),hx y (by simp)]
 case unOp op t x=>rw[hx x (by simp)]
 case convert s t x=>rw[hx x (by simp)]
 case makeInterface t x=>rw[hx x (by simp)]
 case makeFunc fn f1 cap =>
  have h1:∀x∈cap.toList,ρ' x=ρ x:=fun x uk=>hx x (by simp only[Array.mem_append];exact .inr (by simpa using uk))
  generalize cap.toList=l at h1 ⊢
  generalize f1.toList=l1
  cases fn<;>cases l1<;>try rfl
  rcases l with _|⟨x,_|⟨y,l⟩⟩
  ·rfl
  ·simp only[h1 x (by simp)]
  ·rfl
 case makeSlice t x y=>rw[hx x (by simp),hx y (by simp)]
 case slice t x lo hi mx =>
  have h1:=hx x (by simp)
  have h2:∀d:EV,JA ρ' lo d=JA ρ lo d:=fun d=>by
   cases lo with
   |none=>rfl
   |some y=>exact hx y (by simp)
  have h3:∀d:EV,JA ρ' hi d=JA ρ hi d:=fun d=>by
   cases hi with
   |none=>rfl
   |some y=>exact hx y (by simp)
  simp only[h1,h2,h3]
 case fieldAddr t x f=>rw[hx x (by simp)]
 case field t x f=>rw[hx x (by simp)]
 case indexAddr t x y=>rw[hx x (by simp),hx y (by simp)]
 case index t x i=>rw[hx x (by simp),hx i (by simp)]
 case extract x i=>rw[hx x (by simp)]
 case typeAssert x xt t ok=>cases ok<;>simp only[hx x (by simp)]
 case call c =>
  obtain⟨cl,args,GC⟩:=c
  simp only
  split
  ·rename_i x t gT _
   rw[hx x (by simp[Call.operands,JG gT])]
  ·rename_i x y gT
   rw[hx x (by simp[Call.operands,wI gT]),hx y (by simp[Call.operands,wI gT])]
  ·rename_i x y gT
   rw[hx x (by simp[Call.operands,wI gT]),hx y (by simp[Call.operands,wI gT])]
  ·rfl
theorem uq{env Hw:Env} : ∀{l:List Operand},(∀x∈l,c9 Hw x=c9 env x)→l3 Hw l=l3 env l
 |[],_=>rfl
 |x::r,h=>by
  unfold l3
  rw[h x (by simp),uq (l:=r) (fun y hy=>h y (by simp[hy]))]
structure XR where
 val:EV
 new:Option SC
 wr:Option (Nat×SC)
 rd:Option Nat
 ob:List Prop
def storeAt(T:jZ)(op:Op)(dst:Option Nat)(h:Hint)(ρ:Operand→Option EV)(sto:aN):Option (Nat×SC×List Prop) :=
 match op,dst with
 |.store t x y,none=>match T.get t,ρ x,ρ y with
  |some d,some (.ptr r off),some e=>match ml e,sto.get r with
   |some cs,some sc=>bif Nat.beq cs.length d.size&&Nat.blt r 999999 then
     match h with
     |.cells sc'=>some (r,sc',[off+cs.length≤sc.pE.length,cZ sc.pE off cs=sc'.pE])
     |_=>match sc with
      |.lit cells=>bif Nat.ble (off+cs.length) cells.length then some (r,.lit (cZ cells off cs),[]) else none
      |_=>none
    else none
   |_,_=>none
  |_,_,_=>none
 |_,_=>none
theorem AT{T:jZ}{o:Oper}{h:Hint}{s:St}{r:Nat}{sc:SC}{ob:List Prop}(aP:storeAt T o.op o.dst h (c9 s.env) s.sto=some (r,sc,ob)) :
  pK T o h s=some (⟨s.env,aN.set s.sto r sc⟩,ob)∧o.dst=none:=by
 unfold storeAt at aP
 split at aP
 ·rename_i t x y rh Cg
  refine⟨?_,Cg⟩
  unfold pK
  rw[rh,Cg]
  simp only
  split at aP
  ·rename_i d r' off e hd hx hy
   simp only[hd,hx,hy]
   split at aP
   ·rename_i cs EX tQ lO
    simp only[tQ,lO]
    cases hl:(Nat.beq cs.length d.size&&Nat.blt r' 999999) with
    |false=>simp[hl] at aP
    |true =>
     simp only[hl,cond_true] at aP ⊢
     split at aP
     ·injection aP with aP;injection aP with h1 h2;injection h2 with h2 h3
      subst h1;subst h2;subst h3
      rfl
     ·rename_i iN
      split at aP
      ·rename_i cells
       cases hle:Nat.ble (off+cs.length) cells.length with
       |false=>simp[hle] at aP
       |true =>
        simp only[hle,cond_true] at aP
        injection aP with aP;injection aP with h1 h2;injection h2 with h2 h3
        subst h1;subst h2;subst h3
        cases h<;>first|(simp only[hle,cond_true];done)|exact absurd rfl (iN _)
      ·cases aP
   ·cases aP
  ·cases aP
 ·cases aP
theorem zD{T:jZ}{op:Op}{dst:Option Nat}{h:Hint}{ρ ρ':Operand→Option EV}{sto sto':aN}(hx:∀x∈op.operands,ρ' x=ρ x)
  (hs:∀t x y r off,op = .store t x y→ρ x=some (.ptr r off)→sto'.get r=sto.get r):storeAt T op dst h ρ' sto'=storeAt T op dst h ρ sto:=by
 unfold storeAt
 split
 ·rename_i t x y
  simp only[Op.operands] at hx
  rw[hx x (by simp),hx y (by simp)]
  split
  ·rename_i d r off e hd hr hy
   rw[hs t x y r off rfl hr]
  ·rfl
 ·rfl
theorem AU{T:jZ}{t:TypeId}{x y:Operand}{dst:Option Nat}{h:Hint}{ρ:Operand→Option EV}{sto:aN}{r r' off:Nat}{sc:SC}{ob:List Prop}
  (aP:storeAt T (.store t x y) dst h ρ sto=some (r',sc,ob)) (hx:ρ x=some (.ptr r off)):r'=r:=by
 unfold storeAt at aP
 cases dst with
 |some d=>cases aP
 |none =>
  simp only[hx] at aP
  cases hd:T.get t with
  |none=>simp[hd] at aP
  |some d =>
   simp only[hd] at aP
   cases hy:ρ y with
   |none=>simp[hy] at aP
   |some e =>
    simp only[hy] at aP
    split at aP
    ·rename_i cs EX tQ lO
     cases hl:(Nat.beq cs.length d.size&&Nat.blt r 999999) with
     |false=>simp[hl] at aP
     |true =>
      simp only[hl,cond_true] at aP
      split at aP
      ·injection aP with aP;injection aP with h1 h2;exact h1.symm
      ·split at aP
       ·rename_i cells
        cases hle:Nat.ble (off+cs.length) cells.length with
        |false=>simp[hle] at aP
        |true =>
         simp only[hle,cond_true] at aP
         injection aP with aP;injection aP with h1 h2;exact h1.symm
       ·cases aP
    ·cases aP
def AV(ρ:Operand→Option EV):Op→Option Nat
 |.load _ x=>match ρ x with
  |some (.ptr r _)=>some r
  |_=>none
 |_=>none
def mw(ρ:Operand→Option EV)(op:Op):Option mW→Option XR
 |some res=>some ⟨res.val,res.new,none,AV ρ op,res.ob⟩
 |none=>none
theorem x7(sout:aN):∀sto:aN,kX [] sout sto=sto
 |[]=>rfl
 |(x,sc)::sto=>by simp only[kX,assoc,x7 sout sto,Bool.cond_self]
def Hx:Operand→Bool
 |.const (.slice none 0 0)=>true
 |_=>false
theorem Hy{env:Env}{x:Operand}(h:Hx x=false):Cm true env x=c9 env x:=by
 unfold Cm
 split
 ·rw[Hx] at h;cases h
 ·rfl
theorem Cy(env:Env):∀(l:List Operand) {ps:List PV},l.any Hx=false→l3 env l=some ps→Ac true env (assoc []) l=some (ps.map EV.pv)
 |[],ps,_,h=>by injection h with h;subst h;rfl
 |x::l,ps,hn,h=>by
  rw[List.any_cons,Bool.or_eq_false_iff] at hn
  unfold l3 at h
  split at h
  ·rename_i p qs hx hq
   injection h with h;subst h
   unfold Ac
   rw[Hy hn.1,hx,Cy env l hn.2 hq]
   rfl
  ·cases h
def hU(P:Program)(T:jZ)(o:Oper)(h:Hint)(s:St):Option XR :=
 match o.op with
 |.store _ _ _=>match storeAt T o.op o.dst h (c9 s.env) s.sto with
  |some (r,sc,ob)=>some ⟨.dead,none,some (r,sc),none,ob⟩
  |none=>none
 |.call c=>match c.callee with
  |.value (.func f)=>match h,l3 s.env c.args.toList with
   |.pv r,some ps=>some ⟨.pv r,none,none,none,[fK P f ps r]⟩
   |.bz [] (some (y,d)) (.row y1 off len sz) [(y2,sc)],some ps=>bif Nat.beq y y1&&Nat.beq y y2&&fL sc&&ti o.dst d && !(c.args.toList.any Hx)&&Nat.blt y 999999 then
     some ⟨.row d off len sz,some sc,none,none,[aw P f (ps.map EV.pv) [] (.row y off len sz) [(y,sc)]]⟩ else none
   |_,_=>none
  |.builtin .append=>none
  |.builtin .copy=>none
  |_=>mw (c9 s.env) o.op (b9 T s.sto o.dst o.op (c9 s.env) h)
 |_=>mw (c9 s.env) o.op (b9 T s.sto o.dst o.op (c9 s.env) h)
def oI(s:St)(dst:Option Nat):Option SC→Bool
 |none=>true
 |some _=>match dst with
  |none=>false
  |some d=>(s.sto.get d).isNone&&Nat.blt d 999999
def AW(P:Program)(T:jZ)(n:Nat)(ops:Array Oper)(o:Oper)(h:Hint)(s:St):Option XR :=
 bif jH n o.dst then
  match o.guard with
  |none=>match hU P T o h s with
   |some res=>bif oI s o.dst res.new then some res else none
   |none=>none
  |some (j,want)=>match (ops[j]?).bind (·.dst) with
   |some t=>match s.env.get t with
    |some (.pv (.bool b))=>match h with
     |.skip=>some ⟨.pv (.bh []),none,none,none,[b = !want]⟩
     |h=>match hU P T o h s with
      |some res=>bif oI s o.dst res.new then some ⟨res.val,res.new,res.wr,res.rd,(b=want)::res.ob⟩ else none
      |none=>none
    |some (.pv (.bh _))=>match h with
     |.skip=>some ⟨.pv (.bh []),none,none,none,[]⟩
     |_=>none
    |_=>none
   |none=>none
 else none
def wL(sto:aN)(dst:Option Nat)(res:XR):aN :=
 match res.new,dst with
  |some sc,some d=>bif Nat.blt d 999999 then (d,sc)::sto else sto
  |_,_=>match res.wr with
   |some (r,sc)=>aN.set sto r sc
   |none=>sto
def hAdd(s:St)(dst:Option Nat)(res:XR):St:=⟨nj s.env dst res.val,wL s.sto dst res⟩
section
variable {P:Program} {T:jZ} {Γ:Ctx} {s s':St} {a:Act} {w:World} {β:Nat→Option Nat} {I:Nat→Prop} {o:Oper} {h:Hint} {ob:List Prop} {res:XR} {ops:Array Oper}
theorem Cz{r0:mW}{rd:Option Nat}(hf:oI s o.dst r0.new=true):u9 s o.dst r0=some (hAdd s o.dst ⟨r0.val,r0.new,none,rd,r0.ob⟩,r0.ob):=by
 obtain⟨val,new,ob⟩:=r0
 unfold u9 hAdd wL
 cases new with
 |none=>rfl
 |some sc =>
  unfold oI at hf
  simp only
  cases hd:o.dst with
  |none=>rw[hd] at hf;cases hf
  |some d =>
   rw[hd] at hf
   simp only at hf ⊢
   rw[Bool.and_eq_true] at hf
   cases hg:s.sto.get d with
   |none=>simp only[hf.2,cond_true]
   |some _=>rw[hg] at hf;cases hf.1
theorem CA(hT:mN P T)(hs:∀r,bk Γ.sin r→Γ.n≤r)(hr:Rel Γ s a w)(aP:hU P T o h s=some res)(hf:oI s o.dst res.new=true)(hd:jH Γ.n o.dst=true)(cd:dw res.ob)
  {K:Act→World→Prop} {Q:Exit→Act→World→Prop} (hk:∀a' w',Rel Γ (hAdd s o.dst res) a' w'→K a' w'):o.wp P a w K Q:=by
 have gen:mw (c9 s.env) o.op (b9 T s.sto o.dst o.op (c9 s.env) h)=some res→o.wp P a w K Q:=by
  intro ax
  unfold mw at ax
  split at ax
  ·rename_i r0 N6
   injection ax with ax;subst ax
   obtain⟨β,I,hr⟩:=hr
   obtain⟨v,w',hex,xD⟩:=vP hT hr.pre N6 cd
   have:=(Cd hs hr hd xD (Cz (rd:=AV (c9 s.env) o.op) hf)).1
   unfold Oper.wp
   rw[hex]
   exact hk _ _ this
  ·cases ax
 unfold hU at aP
 split at aP
 ·rename_i t x y rh
  split at aP
  ·rename_i r sc ob Pr
   injection aP with aP;subst aP
   obtain⟨h1,h2⟩:=AT Pr
   refine qU hT hr h1 cd (fun a' w' dx=>hk a' w' ?_)
   unfold hAdd wL
   rw[h2]
   exact dx
  ·cases aP
 ·rename_i c rh
  split at aP
  ·rename_i f oz
   split at aP
   ·rename_i r ps mP
    injection aP with aP;subst aP
    have hc:rr P Γ.n o (.pv r) s=some (⟨nj s.env o.dst (.pv r),s.sto⟩,[fK P f ps r]):=by
     unfold rr
     rw[rh]
     simp only[oz,mP,hd,cond_true]
    exact ru hr hc cd (fun a' w' h=>hk a' w' h)
   ·rename_i y d y1 off len sz y2 sc ps mP
    cases hb:(Nat.beq y y1&&Nat.beq y y2&&fL sc&&ti o.dst d && !(c.args.toList.any Hx)&&Nat.blt y 999999) with
    |false=>rw[hb] at aP;cases aP
    |true =>
     simp only[hb,cond_true] at aP
     injection aP with aP;subst aP
     simp only[Bool.and_eq_true] at hb
     obtain⟨⟨⟨⟨⟨b1,b2⟩,b3⟩,b4⟩,b5⟩,b6⟩:=hb
     rw[Bool.not_eq_true'] at b5
     have e1:y=y1:=Nat.eq_of_beq_eq_true b1
     have e2:y=y2:=Nat.eq_of_beq_eq_true b2
     have e3:=pS b4
     subst e1;subst e2
     have TS:s.sto.get d=none:=by
      unfold oI at hf
      rw[e3] at hf
      simp only[Bool.and_eq_true] at hf
      simpa using hf.1
     have q6:Nat.blt d 999999=true:=by
      unfold oI at hf
      rw[e3] at hf
      simp only[Bool.and_eq_true] at hf
      exact hf.2
     have TT:aN.get [(y,sc)] y=some sc:=by rw[aN.bW (Nat.le_of_ble_eq_true b6),Nat.beq_refl];rfl
     have sC:Nat.blt d Γ.n=true:=by rw[e3] at hd;exact hd
     have hc:pO P Γ.n o (.bz [] (some (y,d)) (.row y off len sz) [(y,sc)]) s=some (⟨nj s.env o.dst (.row d off len sz),(d,sc)::s.sto⟩,[aw P f (ps.map EV.pv) [] (.row y off len sz) [(y,sc)]]):=by
      unfold pO
      rw[rh]
      simp only[oz,NY,JR,List.append_nil,Cy _ _ b5 mP,hd,l4,List.all_nil,List.all_cons,b3,b6,TT,Nat.beq_refl,cond_true,TS,fe,sF,sC,x7,lP,Option.map_some,ti,Option.isSome_none,Bool.false_or,Bool.and_true,Bool.false_and,givenBy,List.filter_nil,List.map_nil,eZ]
     refine qV hs hr hc cd (fun a' w' h=>hk a' w' ?_)
     unfold hAdd wL
     simp only[e3,q6,cond_true] at h ⊢
     exact h
   ·cases aP
  ·cases aP
  ·cases aP
  ·exact gen aP
 ·exact gen aP
theorem D8(hT:mN P T)(hs:∀r,bk Γ.sin r→Γ.n≤r)(hr:Rel Γ s a w)(aP:AW P T Γ.n ops o h s=some res)(cd:dw res.ob)
  {K:Act→World→Prop} {Q:Exit→Act→World→Prop} (hk:∀a' w',Rel Γ (hAdd s o.dst res) a' w'→K a' w') :
  if Region.wanted o (yielded ops a.tmps) then o.wp P a w K Q∨(o.asks P a w∧LetsOut Q) else K (a.put o.dst undef) w:=by
 unfold AW at aP
 cases hd:jH Γ.n o.dst with
 |false=>simp[hd] at aP
 |true =>
  simp only[hd,cond_true] at aP
  split at aP
  ·rename_i hg
   have hw:Region.wanted o (yielded ops a.tmps)=true:=by simp[Region.wanted,hg]
   rw[if_pos hw]
   split at aP
   ·rename_i L0 nQ
    cases hf:oI s o.dst L0.new with
    |false=>simp[hf] at aP
    |true =>
     simp only[hf,cond_true] at aP
     injection aP with aP;subst aP
     exact .inl (CA hT hs hr nQ hf hd cd hk)
   ·cases aP
  ·rename_i j want hg
   split at aP
   ·rename_i t ht
    split at aP
    ·rename_i b hb
     have hy:yielded ops a.tmps j=some b:=by
      obtain⟨β,I,dx⟩:=hr
      have hv:Rd I w (.bool b) (a.tmps.getD t undef):=dx.env t _ hb
      have zn:a.tmps.getD t undef = .bool b:=by generalize a.tmps.getD t undef=v at hv;cases hv;rfl
      unfold yielded
      rw[ht]
      simp only[Option.bind_some]
      rw[Array.getD_eq_getD_getElem?] at zn
      cases hx:a.tmps[t]? with
      |none=>rw[hx] at zn;simp[undef] at zn
      |some v=>rw[hx] at zn;simp at zn;subst zn;rfl
     have hw:Region.wanted o (yielded ops a.tmps)=(b==want):=by
      simp only[Region.wanted,hg,hy]
      cases b<;>cases want<;>rfl
     split at aP
     ·injection aP with aP;subst aP
      have Ql:b = !want:=cd
      rw[if_neg (by rw[hw,Ql];cases want<;>simp)]
      obtain⟨β,I,dx⟩:=hr
      exact hk _ _ ⟨β,I,dx.put (eb hd) (um _ _)⟩
     ·split at aP
      ·rename_i L0 nQ
       cases hf:oI s o.dst L0.new with
       |false=>simp[hf] at aP
       |true =>
        simp only[hf,cond_true] at aP
        injection aP with aP;subst aP
        obtain⟨g1,g2⟩:=cd.cons
        rw[if_pos (by rw[hw,g1];simp)]
        exact .inl (CA hT hs hr nQ hf hd g2 hk)
      ·cases aP
    ·rename_i vs hb
     split at aP
     ·injection aP with aP;subst aP
      obtain⟨β,I,dx⟩:=hr
      rw[if_neg (by rw[xX ht (dx.env t _ hb) hg];simp)]
      exact hk _ _ ⟨β,I,dx.put (eb hd) (um _ _)⟩
     ·cases aP
    ·cases aP
   ·cases aP
abbrev HR:=Nat×Oper×XR
def app(U:List Nat):List HR→St→St
 |[],s=>s
 |(i,o,res)::rs,s=>app U rs (if i∈U then s else hAdd s o.dst res)
def tk:List HR→Prop
 |[]=>True
 |(_,o,_)::rs=>(∀d,o.dst=some d→∀x∈rs,x.2.1.dst≠some d)∧tk rs
def iF(x:HR):Option Nat :=
 match x.2.2.new,x.2.1.dst with
 |some _,some d=>some d
 |_,_=>x.2.2.wr.map (·.1)
theorem x8(s:St)(dst:Option Nat)(res:XR)(t:Nat):(hAdd s dst res).env.get t=if dst=some t then some res.val else s.env.get t:=by
 cases dst with
 |none=>simp[hAdd,nj]
 |some d =>
  simp only[hAdd,nj,Env.get]
  cases hb:Nat.beq d t with
  |true=>have:d=t:=Nat.eq_of_beq_eq_true hb;subst this;simp
  |false =>
   have:d≠t:=by intro e;subst e;simp at hb
   simp[this]
theorem tm(sto:aN)(x:HR)(r:Nat)(h:iF x≠some r):(wL sto x.2.1.dst x.2.2).get r=sto.get r:=by
 unfold iF at h
 unfold wL
 split
 ·rename_i sc d hn hd
  simp only[hn,hd] at h
  cases q6:Nat.blt d 999999 with
  |false=>rfl
  |true =>
   simp only[cond_true]
   rw[aN.bW (Nat.le_of_ble_eq_true q6),fJ (fun e=>h (by rw[e]))]
   rfl
 ·rename_i iN
  split at h
  ·rename_i sc d hn hd
   exact absurd hd (iN _ _ hn)
  ·split
   ·rename_i r' sc hw
    rw[hw] at h
    simp only[Option.map_some,ne_eq,Option.some.injEq] at h
    rw[aN.kV,if_neg (fun e=>h e.1.symm)]
   ·rfl
theorem Af(sto sto':aN)(x:HR)(r:Nat)(h:sto'.get r=sto.get r):(wL sto' x.2.1.dst x.2.2).get r=(wL sto x.2.1.dst x.2.2).get r:=by
 unfold wL
 split
 ·rename_i sc d _ _
  cases q6:Nat.blt d 999999 with
  |false=>exact h
  |true =>
   simp only[cond_true]
   rw[aN.bW (Nat.le_of_ble_eq_true q6),aN.bW (Nat.le_of_ble_eq_true q6),h]
 ·split
  ·rw[aN.kV,aN.kV,h]
  ·exact h
theorem jt(U:List Nat)(t:Nat):∀(rs:List HR) (s:St),(∀x∈rs,x.2.1.dst=some t→x.1∈U)→(app U rs s).env.get t=s.env.get t
 |[],s,_=>rfl
 |(i,o,res)::rs,s,h=>by
  simp only[app]
  rw[jt U t rs _ (fun x hx=>h x (by simp[hx]))]
  by_cases hi:i∈U
  ·rw[if_pos hi]
  ·rw[if_neg hi,x8,if_neg (fun e=>hi (h (i,o,res) (by simp) e))]
theorem kY(U:List Nat)(t:Nat)(x:HR)(ht:x.2.1.dst=some t)(hu:x.1 ∉ U)(rs:List HR):∀(s:St),tk rs→x∈rs→(app U rs s).env.get t=some x.2.2.val:=by
 induction rs with
 |nil=>intro s _ hx;cases hx
 |cons y rs ih =>
  intro s hd hx
  obtain⟨i,o,res⟩:=y
  show(app U rs (if i∈U then s else hAdd s o.dst res)).env.get t=_
  rcases List.mem_cons.1 hx with hx|hx
  ·subst hx
   rw[jt U t rs _ (fun y hy e=>absurd e (hd.1 t ht y hy)),if_neg hu,x8,if_pos ht]
  ·exact ih _ hd.2 hx
theorem oJ(U U':List Nat)(r:Nat):∀(rs:List HR) (s s':St),(∀y∈rs,iF y=some r→(y.1∈U↔y.1∈U'))→s'.sto.get r=s.sto.get r→(app U' rs s').sto.get r=(app U rs s).sto.get r
 |[],s,s',_,h=>h
 |(i,o,res)::rs,s,s',hU,h=>by
  simp only[app]
  refine oJ U U' r rs _ _ (fun y hy=>hU y (by simp[hy])) ?_
  by_cases hw:iF (i,o,res)=some r
  ·have hi:=hU (i,o,res) (by simp) hw
   by_cases h1:i∈U
   ·rw[if_pos h1,if_pos (hi.1 h1)];exact h
   ·rw[if_neg h1,if_neg (fun h2=>h1 (hi.2 h2))]
    exact Af s.sto s'.sto (i,o,res) r h
  ·have h1:∀(b:Prop) [Decidable b] (s:St),(if b then s else hAdd s o.dst res).sto.get r=s.sto.get r:=fun b _ s=>by
    split
    ·rfl
    ·exact tm s.sto (i,o,res) r hw
   rw[h1,h1];exact h
theorem qv(U:List Nat)(r:Nat):∀(rs:List HR) (s:St),(∀y∈rs,iF y=some r→y.1∈U)→(app U rs s).sto.get r=s.sto.get r
 |[],s,_=>rfl
 |(i,o,res)::rs,s,h=>by
  simp only[app]
  rw[qv U r rs _ (fun y hy=>h y (by simp[hy]))]
  by_cases hi:i∈U
  ·rw[if_pos hi]
  ·rw[if_neg hi]
   exact tm s.sto (i,o,res) r (fun e=>hi (h (i,o,res) (by simp) e))
theorem tn(U:List Nat):∀(pre post:List HR) (s:St),app U (pre++post) s=app U post (app U pre s)
 |[],_,_=>rfl
 |(i,o,res)::pre,post,s=>by
  simp only[List.cons_append,app]
  exact tn U pre post _
theorem x9{U:List Nat}{pre post:List HR}{x:HR}{r:Nat}(s:St)(h1:∀y∈pre,iF y=some r→y.1 ∉ U)(h2:∀y∈post,iF y=some r→y.1∈U)(hx:x.1∈U) :
  (app U (pre++x::post) s).sto.get r=(app [] pre s).sto.get r:=by
 rw[tn]
 obtain⟨i,o,res⟩:=x
 show(app U post (if i∈U then app U pre s else hAdd (app U pre s) o.dst res)).sto.get r=_
 rw[if_pos hx,qv U r post _ h2]
 exact oJ [] U r pre s s (fun y hy hw=>⟨fun h=>(by cases h),fun h=>absurd h (h1 y hy hw)⟩) rfl
theorem F3{U U':List Nat}{rs pre post:List HR}{x:HR}(F4:rs=pre++x::post)(hd:tk rs)(hU:∀j,j∈U'↔j∈U∧j≠x.1)(Ag:∀y∈rs,y.1=x.1→y=x)(Vv:x ∉ pre)(L4:x.1∈U)
  (Dw:∀r,iF x=some r→∀y∈pre,iF y=some r→y.1 ∉ U) (w7:∀r,iF x=some r→∀y∈post,iF y=some r→y.1∈U) (TU:x ∉ post) (s:St) :
  JJ (hAdd (app U rs s) x.2.1.dst x.2.2) (app U' rs s):=by
 have hx:x∈rs:=by rw[F4];simp
 have uk:x.1 ∉ U':=fun h=>((hU _).1 h).2 rfl
 refine⟨fun t => ?_,fun r => ?_⟩
 ·rw[x8]
  by_cases ht:x.2.1.dst=some t
  ·rw[if_pos ht,kY U' t x ht uk rs s hd hx]
  ·rw[if_neg ht]
   by_cases hy:∃y∈rs,y.2.1.dst=some t∧y.1 ∉ U
   ·obtain⟨y,hy,Nv,Ps⟩:=hy
    rw[kY U t y Nv Ps rs s hd hy,kY U' t y Nv (fun h=>Ps ((hU _).1 h).1) rs s hd hy]
   ·have h1:∀y∈rs,y.2.1.dst=some t→y.1∈U:=fun y Cr K0=>Classical.byContradiction fun hc=>hy ⟨y,Cr,K0,hc⟩
    rw[jt U t rs s h1,jt U' t rs s (fun y Cr K0=>(hU _).2 ⟨h1 y Cr K0,fun e=>ht (by rw[←Ag y Cr e];exact K0)⟩)]
 ·by_cases hw:iF x=some r
  ·have e1:(app U' rs s).sto.get r=(wL (app U' pre s).sto x.2.1.dst x.2.2).get r:=by
    rw[F4,tn]
    obtain⟨i,o,res⟩:=x
    show(app U' post (if i∈U' then app U' pre s else hAdd (app U' pre s) o.dst res)).sto.get r=_
    rw[if_neg uk,qv U' r post _ (fun y hy N7=>(hU _).2 ⟨w7 r hw y hy N7,fun e=>TU (by rw[←Ag y (by rw[F4];simp[hy]) e];exact hy)⟩)]
    rfl
   rw[e1]
   show _=(wL (app U rs s).sto x.2.1.dst x.2.2).get r
   refine Af _ _ x r ?_
   rw[F4,x9 s (Dw r hw) (w7 r hw) L4]
   exact oJ [] U' r pre s s (fun y hy N7=>⟨fun h=>(by cases h),fun h=>absurd ((hU _).1 h).1 (Dw r hw y hy N7)⟩) rfl
  ·show _=(wL (app U rs s).sto x.2.1.dst x.2.2).get r
   rw[tm _ x r hw]
   refine oJ U U' r rs s s (fun y hy N7=>⟨fun h=>(hU _).2 ⟨h,fun e=>hw (by rw[←Ag y hy e];exact N7)⟩,fun h=>((hU _).1 h).1⟩) rfl
def zF(P:Program)(T:jZ)(n:Nat)(ops:Array Oper):List HR→List Hint→St→Prop
 |[],_,_=>True
 |(i,o,res)::rs,hs,s=>ops[i]? = some o∧AW P T n ops o (hs.headD .none) s=some res∧zF P T n ops rs hs.tail (hAdd s o.dst res)
theorem CB{env Hw:Env}(x:Operand)(h:∀t,x = .tmp t→Hw.get t=env.get t):c9 Hw x=c9 env x:=by
 cases x with
 |tmp t=>exact h t rfl
 |const v=>rfl
 |func f=>rfl
 |global g=>rfl
theorem D9{ρ ρ':Operand→Option EV}{op:Op}(hx:∀x∈op.operands,ρ' x=ρ x):AV ρ' op=AV ρ op:=by
 cases op<;>try rfl
 case load t x=>simp only[AV];rw[hx x (by simp[Op.operands])]
def vk(ρ:Operand→Option EV):Op→Option Nat
 |.load _ x=>match ρ x with
  |some (.ptr r _)=>some r
  |_=>none
 |.store _ x _=>match ρ x with
  |some (.ptr r _)=>some r
  |_=>none
 |_=>none
theorem Hz{s s':St}(he:∀t,Operand.tmp t∈o.op.operands→s'.env.get t=s.env.get t)
  (hs:∀r,vk (c9 s.env) o.op=some r→s'.sto.get r=s.sto.get r):hU P T o h s'=hU P T o h s:=by
 have xA:∀x∈o.op.operands,c9 s'.env x=c9 s.env x:=fun x hx=>CB x (fun t ht=>he t (ht ▸ hx))
 have rh:b9 T s'.sto o.dst o.op (c9 s'.env) h=b9 T s.sto o.dst o.op (c9 s.env) h:=Cx xA (fun t x r off ho hx=>hs r (by rw[ho];simp[vk,hx]))
 have tc:AV (c9 s'.env) o.op=AV (c9 s.env) o.op:=D9 xA
 have K1:mw (c9 s'.env) o.op (b9 T s'.sto o.dst o.op (c9 s'.env) h)=mw (c9 s.env) o.op (b9 T s.sto o.dst o.op (c9 s.env) h):=by
  rw[rh];unfold mw;rw[tc]
 unfold hU
 split
 ·rename_i t x y ho
  rw[zD xA (fun t x y r off ho hx=>hs r (by rw[ho];simp[vk,hx]))]
 ·rename_i c hc
  rw[hc] at xA
  have Qr:l3 s'.env c.args.toList=l3 s.env c.args.toList:=uq (fun x hx=>xA x (by simp[Op.operands,Call.operands];exact .inr (by simpa using hx)))
  split
  ·rw[Qr]
  ·rfl
  ·rfl
  ·exact K1
 ·exact K1
theorem JX(aP:hU P T o h s=some res){r:Nat}(hr:vk (c9 s.env) o.op=some r):res.rd=some r∨(res.new=none∧res.wr.map (·.1)=some r):=by
 unfold hU at aP
 split at aP
 ·rename_i t x y rh
  right
  split at aP
  ·rename_i r' sc ob Pr
   injection aP with aP;subst aP
   refine⟨rfl,?_⟩
   rw[rh] at hr Pr
   unfold vk at hr
   simp only at hr
   split at hr
   ·rename_i q off hq
    injection hr with hr;subst hr
    rw[AU Pr hq];rfl
   ·cases hr
  ·cases aP
 ·rename_i c rh
  rw[rh] at hr
  cases hr
 ·left
  unfold mw at aP
  split at aP
  ·injection aP with aP;subst aP
   show AV (c9 s.env) o.op=some r
   rename_i Ce Sl _ _ _
   cases ho:o.op<;>rw[ho] at hr<;>first|(cases hr;done)|skip
   ·simpa[vk,AV] using hr
   ·rename_i t x y;exact absurd ho (Ce t x y)
  ·cases aP
end
end Go.Proofs.YtfjfekodeplcoaaGreat.Sym
