/- The comparison of algebraic numbers is a total order that agrees with the comparison with fractions. The law AlgebraicOrder returns true for every input, with the tables of numerals of the Go library that the row lists as they are laid. -/
import Derived.Test.YtllmkadmohkbfaaGreatDoorYSymO
namespace Go.Proofs.YtllmkadmohkbfaaGreatDoor.Sym
open Go Go.RowKit
theorem oZ{ρ ρ':Operand→Option EV} : ∀{l:List (Nat×Operand)},(∀x∈l.map (·.2),ρ' x=ρ x)→n9 ρ' l=n9 ρ l
 |[],_=>rfl
 |(i,x)::r,h=>by
  unfold n9
  rw[h x (by simp),oZ (l:=r) (fun y hy=>h y (by simp at hy ⊢;exact .inr hy))]
theorem Ej{T:j0}{aG v8:aS}{dst:Option Nat}{op:Op}{ρ ρ':Operand→Option EV}{h:Hint}(hx:∀x∈op.operands,ρ' x=ρ x)
  (hs:∀t x r off,op = .load t x→ρ x=some (.ptr r off)→v8.get r=aG.get r):b8 T v8 dst op ρ' h=b8 T aG dst op ρ h:=by
 cases op<;>simp only[Op.operands] at hx<;>simp only[b8]
 case move x=>rw[hx x (by simp)]
 case assign x=>rw[hx x (by simp)]
 case pick c a b =>
  have h1:=hx c (by simp)
  have h2:=hx a (by simp)
  have h3:=hx b (by simp)
  have h4:∀d:Bool,ρ' (bif d then a else b)=ρ (bif d then a else b):=fun d=>by cases d<;>simp[h2,h3]
  rw[h1]
  simp only[h4]
 case box t x=>rw[hx x (by simp)]
 case build t ps=>rw[oZ (fun x CB=>hx x (by simpa using CB))]
 case buildSlice t n ps=>rw[oZ (fun x CB=>hx x (by simpa using CB))]
 case load t x =>
  have h1:=hx x (by simp)
  rw[h1]
  cases T.get t with
  |none=>rfl
  |some d =>
   cases hr:ρ x with
   |none=>rfl
   |some e =>
    cases e with
    |ptr r off=>simp only[hs t x r off rfl hr]
    |_=>rfl
 case nilCheck x=>rw[hx x (by simp)]
 case binOp op t x y yt=>rw[hx x (by simp),hx y (by simp)]
 case unOp op t x=>rw[hx x (by simp)]
 case convert s t x=>rw[hx x (by simp)]
 case makeInterface t x=>rw[hx x (by simp)]
 case makeFunc fn f1 cap =>
  have h1:∀x∈cap.toList,ρ' x=ρ x:=fun x CB=>hx x (by simp only[Array.mem_append];exact .inr (by simpa using CB))
  generalize cap.toList=l at h1 ⊢
  generalize f1.toList=l1
  cases fn<;>cases l1<;>try rfl
  rcases l with _|⟨x,_|⟨y,l⟩⟩
  ·rfl
  ·simp only[h1 x (by simp)]
  ·rfl
 case makeSlice t x y=>rw[hx x (by simp),hx y (by simp)]
 case slice t x lo hi mx =>
  have h1:=hx x (by simp)
  have h2:∀d:EV,Mi ρ' lo d=Mi ρ lo d:=fun d=>by
   cases lo with
   |none=>rfl
   |some y=>exact hx y (by simp)
  have h3:∀d:EV,Mi ρ' hi d=Mi ρ hi d:=fun d=>by
   cases hi with
   |none=>rfl
   |some y=>exact hx y (by simp)
  simp only[h1,h2,h3]
 case fieldAddr t x f=>rw[hx x (by simp)]
 case field t x f=>rw[hx x (by simp)]
 case indexAddr t x y=>rw[hx x (by simp),hx y (by simp)]
 case index t x i=>rw[hx x (by simp),hx i (by simp)]
 case extract x i=>rw[hx x (by simp)]
 case typeAssert x xt t ok=>cases ok<;>simp only[hx x (by simp)]
 case call c =>
  obtain⟨cl,args,JA⟩:=c
  simp only
  split
  ·rename_i x t jz _
   rw[hx x (by simp[Call.operands,Mq jz])]
  ·rename_i x y jz
   rw[hx x (by simp[Call.operands,xV jz]),hx y (by simp[Call.operands,xV jz])]
  ·rename_i x y jz
   rw[hx x (by simp[Call.operands,xV jz]),hx y (by simp[Call.operands,xV jz])]
  ·rfl
theorem uU{env JV:Env} : ∀{l:List Operand},(∀x∈l,cZ JV x=cZ env x)→mH JV l=mH env l
 |[],_=>rfl
 |x::r,h=>by
  unfold mH
  rw[h x (by simp),uU (l:=r) (fun y hy=>h y (by simp[hy]))]
structure XR where
 val:EV
 new:Option SC
 wr:Option (Nat×SC)
 rd:Option Nat
 ob:List Prop
def storeAt(T:j0)(op:Op)(dst:Option Nat)(h:Hint)(ρ:Operand→Option EV)(aG:aS):Option (Nat×SC×List Prop) :=
 match op,dst with
 |.store t x y,none=>match T.get t,ρ x,ρ y with
  |some d,some (.ptr r off),some e=>match pW e,aG.get r with
   |some cs,some sc=>bif Nat.beq cs.length d.size&&Nat.blt r 999999 then
     match h with
     |.cells sc'=>some (r,sc',[off+cs.length≤sc.qR.length,ee sc.qR off cs=sc'.qR])
     |_=>match sc with
      |.lit cells=>bif Nat.ble (off+cs.length) cells.length then some (r,.lit (ee cells off cs),[]) else none
      |_=>none
    else none
   |_,_=>none
  |_,_,_=>none
 |_,_=>none
theorem CD{T:j0}{o:Oper}{h:Hint}{s:St}{r:Nat}{sc:SC}{ob:List Prop}(aI:storeAt T o.op o.dst h (cZ s.env) s.aG=some (r,sc,ob)) :
  pr T o h s=some (⟨s.env,aS.set s.aG r sc⟩,ob)∧o.dst=none:=by
 unfold storeAt at aI
 split at aI
 ·rename_i t x y s6 D8
  refine⟨?_,D8⟩
  unfold pr
  rw[s6,D8]
  simp only
  split at aI
  ·rename_i d r' off e hd hx hy
   simp only[hd,hx,hy]
   split at aI
   ·rename_i cs Hb yK nY
    simp only[yK,nY]
    cases hl:(Nat.beq cs.length d.size&&Nat.blt r' 999999) with
    |false=>simp[hl] at aI
    |true =>
     simp only[hl,cond_true] at aI ⊢
     split at aI
     ·injection aI with aI;injection aI with h1 h2;injection h2 with h2 h3
      subst h1;subst h2;subst h3
      rfl
     ·rename_i df
      split at aI
      ·rename_i cells
       cases hle:Nat.ble (off+cs.length) cells.length with
       |false=>simp[hle] at aI
       |true =>
        simp only[hle,cond_true] at aI
        injection aI with aI;injection aI with h1 h2;injection h2 with h2 h3
        subst h1;subst h2;subst h3
        cases h<;>first|(simp only[hle,cond_true];done)|exact absurd rfl (df _)
      ·cases aI
   ·cases aI
  ·cases aI
 ·cases aI
theorem A9{T:j0}{op:Op}{dst:Option Nat}{h:Hint}{ρ ρ':Operand→Option EV}{aG v8:aS}(hx:∀x∈op.operands,ρ' x=ρ x)
  (hs:∀t x y r off,op = .store t x y→ρ x=some (.ptr r off)→v8.get r=aG.get r):storeAt T op dst h ρ' v8=storeAt T op dst h ρ aG:=by
 unfold storeAt
 split
 ·rename_i t x y
  simp only[Op.operands] at hx
  rw[hx x (by simp),hx y (by simp)]
  split
  ·rename_i d r off e hd hr hy
   rw[hs t x y r off rfl hr]
  ·rfl
 ·rfl
theorem CE{T:j0}{t:TypeId}{x y:Operand}{dst:Option Nat}{h:Hint}{ρ:Operand→Option EV}{aG:aS}{r r' off:Nat}{sc:SC}{ob:List Prop}
  (aI:storeAt T (.store t x y) dst h ρ aG=some (r',sc,ob)) (hx:ρ x=some (.ptr r off)):r'=r:=by
 unfold storeAt at aI
 cases dst with
 |some d=>cases aI
 |none =>
  simp only[hx] at aI
  cases hd:T.get t with
  |none=>simp[hd] at aI
  |some d =>
   simp only[hd] at aI
   cases hy:ρ y with
   |none=>simp[hy] at aI
   |some e =>
    simp only[hy] at aI
    split at aI
    ·rename_i cs Hb yK nY
     cases hl:(Nat.beq cs.length d.size&&Nat.blt r 999999) with
     |false=>simp[hl] at aI
     |true =>
      simp only[hl,cond_true] at aI
      split at aI
      ·injection aI with aI;injection aI with h1 h2;exact h1.symm
      ·split at aI
       ·rename_i cells
        cases hle:Nat.ble (off+cs.length) cells.length with
        |false=>simp[hle] at aI
        |true =>
         simp only[hle,cond_true] at aI
         injection aI with aI;injection aI with h1 h2;exact h1.symm
       ·cases aI
    ·cases aI
def CF(ρ:Operand→Option EV):Op→Option Nat
 |.load _ x=>match ρ x with
  |some (.ptr r _)=>some r
  |_=>none
 |_=>none
def xj(ρ:Operand→Option EV)(op:Op):Option mN→Option XR
 |some res=>some ⟨res.val,res.new,none,CF ρ op,res.ob⟩
 |none=>none
theorem zu(sout:aS):∀aG:aS,kO [] sout aG=aG
 |[]=>rfl
 |(x,sc)::aG=>by simp only[kO,assoc,zu sout aG,Bool.cond_self]
def JW:Operand→Bool
 |.const (.slice none 0 0)=>true
 |_=>false
theorem JX{env:Env}{x:Operand}(h:JW x=false):Ee true env x=cZ env x:=by
 unfold Ee
 split
 ·rw[JW] at h;cases h
 ·rfl
theorem Ek(env:Env):∀(l:List Operand) {ps:List PV},l.any JW=false→mH env l=some ps→BA true env (assoc []) l=some (ps.map EV.pv)
 |[],ps,_,h=>by injection h with h;subst h;rfl
 |x::l,ps,hn,h=>by
  rw[List.any_cons,Bool.or_eq_false_iff] at hn
  unfold mH at h
  split at h
  ·rename_i p qs hx hq
   injection h with h;subst h
   unfold BA
   rw[JX hn.1,hx,Ek env l hn.2 hq]
   rfl
  ·cases h
def hU(P:Program)(T:j0)(o:Oper)(h:Hint)(s:St):Option XR :=
 match o.op with
 |.store _ _ _=>match storeAt T o.op o.dst h (cZ s.env) s.aG with
  |some (r,sc,ob)=>some ⟨.dead,none,some (r,sc),none,ob⟩
  |none=>none
 |.call c=>match c.callee with
  |.value (.func f)=>match h,mH s.env c.args.toList with
   |.pv r,some ps=>some ⟨.pv r,none,none,none,[eV P f ps r]⟩
   |.bG [] (some (y,d)) (.row y1 off len sz) [(y2,sc)],some ps=>bif Nat.beq y y1&&Nat.beq y y2&&iM sc&&we o.dst d && !(c.args.toList.any JW)&&Nat.blt y 999999 then
     some ⟨.row d off len sz,some sc,none,none,[av P f (ps.map EV.pv) [] (.row y off len sz) [(y,sc)]]⟩ else none
   |_,_=>none
  |.builtin .append=>none
  |.builtin .copy=>none
  |_=>xj (cZ s.env) o.op (b8 T s.aG o.dst o.op (cZ s.env) h)
 |_=>xj (cZ s.env) o.op (b8 T s.aG o.dst o.op (cZ s.env) h)
def og(s:St)(dst:Option Nat):Option SC→Bool
 |none=>true
 |some _=>match dst with
  |none=>false
  |some d=>(s.aG.get d).isNone&&Nat.blt d 999999
def CG(P:Program)(T:j0)(n:Nat)(ops:Array Oper)(o:Oper)(h:Hint)(s:St):Option XR :=
 bif ky n o.dst then
  match o.guard with
  |none=>match hU P T o h s with
   |some res=>bif og s o.dst res.new then some res else none
   |none=>none
  |some (j,want)=>match (ops[j]?).bind (·.dst) with
   |some t=>match s.env.get t with
    |some (.pv (.bool b))=>match h with
     |.skip=>some ⟨.pv (.aE []),none,none,none,[b = !want]⟩
     |h=>match hU P T o h s with
      |some res=>bif og s o.dst res.new then some ⟨res.val,res.new,res.wr,res.rd,(b=want)::res.ob⟩ else none
      |none=>none
    |some (.pv (.aE _))=>match h with
     |.skip=>some ⟨.pv (.aE []),none,none,none,[]⟩
     |_=>none
    |_=>none
   |none=>none
 else none
def xX(aG:aS)(dst:Option Nat)(res:XR):aS :=
 match res.new,dst with
  |some sc,some d=>bif Nat.blt d 999999 then (d,sc)::aG else aG
  |_,_=>match res.wr with
   |some (r,sc)=>aS.set aG r sc
   |none=>aG
def hAdd(s:St)(dst:Option Nat)(res:XR):St:=⟨nm s.env dst res.val,xX s.aG dst res⟩
section
variable {P:Program} {T:j0} {Γ:Ctx} {s s':St} {a:Act} {w:World} {β:Nat→Option Nat} {I:Nat→Prop} {o:Oper} {h:Hint} {ob:List Prop} {res:XR} {ops:Array Oper}
theorem El{r0:mN}{rd:Option Nat}(hf:og s o.dst r0.new=true):vZ s o.dst r0=some (hAdd s o.dst ⟨r0.val,r0.new,none,rd,r0.ob⟩,r0.ob):=by
 obtain⟨val,new,ob⟩:=r0
 unfold vZ hAdd xX
 cases new with
 |none=>rfl
 |some sc =>
  unfold og at hf
  simp only
  cases hd:o.dst with
  |none=>rw[hd] at hf;cases hf
  |some d =>
   rw[hd] at hf
   simp only at hf ⊢
   rw[Bool.and_eq_true] at hf
   cases hg:s.aG.get d with
   |none=>simp only[hf.2,cond_true]
   |some _=>rw[hg] at hf;cases hf.1
theorem Em(hT:mC P T)(hs:∀r,bM Γ.sin r→Γ.n≤r)(hr:Rel Γ s a w)(aI:hU P T o h s=some res)(hf:og s o.dst res.new=true)(hd:ky Γ.n o.dst=true)(cb:dA res.ob)
  {K:Act→World→Prop} {Q:Exit→Act→World→Prop} (hk:∀a' w',Rel Γ (hAdd s o.dst res) a' w'→K a' w'):o.wp P a w K Q:=by
 have gen:xj (cZ s.env) o.op (b8 T s.aG o.dst o.op (cZ s.env) h)=some res→o.wp P a w K Q:=by
  intro aq
  unfold xj at aq
  split at aq
  ·rename_i r0 Rl
   injection aq with aq;subst aq
   obtain⟨β,I,hr⟩:=hr
   obtain⟨v,w',hex,yM⟩:=xa hT hr.pre Rl cb
   have:=(D5 hs hr hd yM (El (rd:=CF (cZ s.env) o.op) hf)).1
   unfold Oper.wp
   rw[hex]
   exact hk _ _ this
  ·cases aq
 unfold hU at aI
 split at aI
 ·rename_i t x y s6
  split at aI
  ·rename_i r sc ob SX
   injection aI with aI;subst aI
   obtain⟨h1,h2⟩:=CD SX
   refine qT hT hr h1 cb (fun a' w' dG=>hk a' w' ?_)
   unfold hAdd xX
   rw[h2]
   exact dG
  ·cases aI
 ·rename_i c s6
  split at aI
  ·rename_i f qQ
   split at aI
   ·rename_i r ps na
    injection aI with aI;subst aI
    have hc:rn P Γ.n o (.pv r) s=some (⟨nm s.env o.dst (.pv r),s.aG⟩,[eV P f ps r]):=by
     unfold rn
     rw[s6]
     simp only[qQ,na,hd,cond_true]
    exact rp hr hc cb (fun a' w' h=>hk a' w' h)
   ·rename_i y d y1 off len sz y2 sc ps na
    cases hb:(Nat.beq y y1&&Nat.beq y y2&&iM sc&&we o.dst d && !(c.args.toList.any JW)&&Nat.blt y 999999) with
    |false=>rw[hb] at aI;cases aI
    |true =>
     simp only[hb,cond_true] at aI
     injection aI with aI;subst aI
     simp only[Bool.and_eq_true] at hb
     obtain⟨⟨⟨⟨⟨b1,b2⟩,b3⟩,b4⟩,b5⟩,b6⟩:=hb
     rw[Bool.not_eq_true'] at b5
     have e1:y=y1:=Nat.eq_of_beq_eq_true b1
     have e2:y=y2:=Nat.eq_of_beq_eq_true b2
     have e3:=wg b4
     subst e1;subst e2
     have Xs:s.aG.get d=none:=by
      unfold og at hf
      rw[e3] at hf
      simp only[Bool.and_eq_true] at hf
      simpa using hf.1
     have q7:Nat.blt d 999999=true:=by
      unfold og at hf
      rw[e3] at hf
      simp only[Bool.and_eq_true] at hf
      exact hf.2
     have Xt:aS.get [(y,sc)] y=some sc:=by rw[aS.jL (Nat.le_of_ble_eq_true b6),Nat.beq_refl];rfl
     have ti:Nat.blt d Γ.n=true:=by rw[e3] at hd;exact hd
     have hc:py P Γ.n o (.bG [] (some (y,d)) (.row y off len sz) [(y,sc)]) s=some (⟨nm s.env o.dst (.row d off len sz),(d,sc)::s.aG⟩,[av P f (ps.map EV.pv) [] (.row y off len sz) [(y,sc)]]):=by
      unfold py
      rw[s6]
      simp only[qQ,Rf,MC,List.append_nil,Ek _ _ b5 na,hd,lP,List.all_nil,List.all_cons,b3,b6,Xt,Nat.beq_refl,cond_true,Xs,kg,s9,ti,zu,lE,Option.map_some,we,Option.isSome_none,Bool.false_or,Bool.and_true,Bool.false_and,givenBy,List.filter_nil,List.map_nil,eO]
     refine qU hs hr hc cb (fun a' w' h=>hk a' w' ?_)
     unfold hAdd xX
     simp only[e3,q7,cond_true] at h ⊢
     exact h
   ·cases aI
  ·cases aI
  ·cases aI
  ·exact gen aI
 ·exact gen aI
theorem Gb(hT:mC P T)(hs:∀r,bM Γ.sin r→Γ.n≤r)(hr:Rel Γ s a w)(aI:CG P T Γ.n ops o h s=some res)(cb:dA res.ob)
  {K:Act→World→Prop} {Q:Exit→Act→World→Prop} (hk:∀a' w',Rel Γ (hAdd s o.dst res) a' w'→K a' w') :
  if Region.wanted o (yielded ops a.tmps) then o.wp P a w K Q∨(o.asks P a w∧LetsOut Q) else K (a.put o.dst undef) w:=by
 unfold CG at aI
 cases hd:ky Γ.n o.dst with
 |false=>simp[hd] at aI
 |true =>
  simp only[hd,cond_true] at aI
  split at aI
  ·rename_i hg
   have hw:Region.wanted o (yielded ops a.tmps)=true:=by simp[Region.wanted,hg]
   rw[if_pos hw]
   split at aI
   ·rename_i O1 np
    cases hf:og s o.dst O1.new with
    |false=>simp[hf] at aI
    |true =>
     simp only[hf,cond_true] at aI
     injection aI with aI;subst aI
     exact .inl (Em hT hs hr np hf hd cb hk)
   ·cases aI
  ·rename_i j want hg
   split at aI
   ·rename_i t ht
    split at aI
    ·rename_i b hb
     have hy:yielded ops a.tmps j=some b:=by
      obtain⟨β,I,dG⟩:=hr
      have hv:Rd I w (.bool b) (a.tmps.getD t undef):=dG.env t _ hb
      have DO:a.tmps.getD t undef = .bool b:=by generalize a.tmps.getD t undef=v at hv;cases hv;rfl
      unfold yielded
      rw[ht]
      simp only[Option.bind_some]
      rw[Array.getD_eq_getD_getElem?] at DO
      cases hx:a.tmps[t]? with
      |none=>rw[hx] at DO;simp[undef] at DO
      |some v=>rw[hx] at DO;simp at DO;subst DO;rfl
     have hw:Region.wanted o (yielded ops a.tmps)=(b==want):=by
      simp only[Region.wanted,hg,hy]
      cases b<;>cases want<;>rfl
     split at aI
     ·injection aI with aI;subst aI
      have TP:b = !want:=cb
      rw[if_neg (by rw[hw,TP];cases want<;>simp)]
      obtain⟨β,I,dG⟩:=hr
      exact hk _ _ ⟨β,I,dG.put (ej hd) (uS _ _)⟩
     ·split at aI
      ·rename_i O1 np
       cases hf:og s o.dst O1.new with
       |false=>simp[hf] at aI
       |true =>
        simp only[hf,cond_true] at aI
        injection aI with aI;subst aI
        obtain⟨g1,g2⟩:=cb.cons
        rw[if_pos (by rw[hw,g1];simp)]
        exact .inl (Em hT hs hr np hf hd g2 hk)
      ·cases aI
    ·rename_i vs hb
     split at aI
     ·injection aI with aI;subst aI
      obtain⟨β,I,dG⟩:=hr
      rw[if_neg (by rw[zi ht (dG.env t _ hb) hg];simp)]
      exact hk _ _ ⟨β,I,dG.put (ej hd) (uS _ _)⟩
     ·cases aI
    ·cases aI
   ·cases aI
abbrev HR:=Nat×Oper×XR
def app(U:List Nat):List HR→St→St
 |[],s=>s
 |(i,o,res)::rs,s=>app U rs (if i∈U then s else hAdd s o.dst res)
def tM:List HR→Prop
 |[]=>True
 |(_,o,_)::rs=>(∀d,o.dst=some d→∀x∈rs,x.2.1.dst≠some d)∧tM rs
def iD(x:HR):Option Nat :=
 match x.2.2.new,x.2.1.dst with
 |some _,some d=>some d
 |_,_=>x.2.2.wr.map (·.1)
theorem zv(s:St)(dst:Option Nat)(res:XR)(t:Nat):(hAdd s dst res).env.get t=if dst=some t then some res.val else s.env.get t:=by
 cases dst with
 |none=>simp[hAdd,nm]
 |some d =>
  simp only[hAdd,nm,Env.get]
  cases hb:Nat.beq d t with
  |true=>have:d=t:=Nat.eq_of_beq_eq_true hb;subst this;simp
  |false =>
   have:d≠t:=by intro e;subst e;simp at hb
   simp[this]
theorem tN(aG:aS)(x:HR)(r:Nat)(h:iD x≠some r):(xX aG x.2.1.dst x.2.2).get r=aG.get r:=by
 unfold iD at h
 unfold xX
 split
 ·rename_i sc d hn hd
  simp only[hn,hd] at h
  cases q7:Nat.blt d 999999 with
  |false=>rfl
  |true =>
   simp only[cond_true]
   rw[aS.jL (Nat.le_of_ble_eq_true q7),gz (fun e=>h (by rw[e]))]
   rfl
 ·rename_i df
  split at h
  ·rename_i sc d hn hd
   exact absurd hd (df _ _ hn)
  ·split
   ·rename_i r' sc hw
    rw[hw] at h
    simp only[Option.map_some,ne_eq,Option.some.injEq] at h
    rw[aS.kM,if_neg (fun e=>h e.1.symm)]
   ·rfl
theorem BC(aG v8:aS)(x:HR)(r:Nat)(h:v8.get r=aG.get r):(xX v8 x.2.1.dst x.2.2).get r=(xX aG x.2.1.dst x.2.2).get r:=by
 unfold xX
 split
 ·rename_i sc d _ _
  cases q7:Nat.blt d 999999 with
  |false=>exact h
  |true =>
   simp only[cond_true]
   rw[aS.jL (Nat.le_of_ble_eq_true q7),aS.jL (Nat.le_of_ble_eq_true q7),h]
 ·split
  ·rw[aS.kM,aS.kM,h]
  ·exact h
theorem jh(U:List Nat)(t:Nat):∀(rs:List HR) (s:St),(∀x∈rs,x.2.1.dst=some t→x.1∈U)→(app U rs s).env.get t=s.env.get t
 |[],s,_=>rfl
 |(i,o,res)::rs,s,h=>by
  simp only[app]
  rw[jh U t rs _ (fun x hx=>h x (by simp[hx]))]
  by_cases hi:i∈U
  ·rw[if_pos hi]
  ·rw[if_neg hi,zv,if_neg (fun e=>hi (h (i,o,res) (by simp) e))]
theorem kP(U:List Nat)(t:Nat)(x:HR)(ht:x.2.1.dst=some t)(hu:x.1 ∉ U)(rs:List HR):∀(s:St),tM rs→x∈rs→(app U rs s).env.get t=some x.2.2.val:=by
 induction rs with
 |nil=>intro s _ hx;cases hx
 |cons y rs ih =>
  intro s hd hx
  obtain⟨i,o,res⟩:=y
  show(app U rs (if i∈U then s else hAdd s o.dst res)).env.get t=_
  rcases List.mem_cons.1 hx with hx|hx
  ·subst hx
   rw[jh U t rs _ (fun y hy e=>absurd e (hd.1 t ht y hy)),if_neg hu,zv,if_pos ht]
  ·exact ih _ hd.2 hx
theorem oh(U U':List Nat)(r:Nat):∀(rs:List HR) (s s':St),(∀y∈rs,iD y=some r→(y.1∈U↔y.1∈U'))→s'.aG.get r=s.aG.get r→(app U' rs s').aG.get r=(app U rs s).aG.get r
 |[],s,s',_,h=>h
 |(i,o,res)::rs,s,s',hU,h=>by
  simp only[app]
  refine oh U U' r rs _ _ (fun y hy=>hU y (by simp[hy])) ?_
  by_cases hw:iD (i,o,res)=some r
  ·have hi:=hU (i,o,res) (by simp) hw
   by_cases h1:i∈U
   ·rw[if_pos h1,if_pos (hi.1 h1)];exact h
   ·rw[if_neg h1,if_neg (fun h2=>h1 (hi.2 h2))]
    exact BC s.aG s'.aG (i,o,res) r h
  ·have h1:∀(b:Prop) [Decidable b] (s:St),(if b then s else hAdd s o.dst res).aG.get r=s.aG.get r:=fun b _ s=>by
    split
    ·rfl
    ·exact tN s.aG (i,o,res) r hw
   rw[h1,h1];exact h
theorem qe(U:List Nat)(r:Nat):∀(rs:List HR) (s:St),(∀y∈rs,iD y=some r→y.1∈U)→(app U rs s).aG.get r=s.aG.get r
 |[],s,_=>rfl
 |(i,o,res)::rs,s,h=>by
  simp only[app]
  rw[qe U r rs _ (fun y hy=>h y (by simp[hy]))]
  by_cases hi:i∈U
  ·rw[if_pos hi]
  ·rw[if_neg hi]
   exact tN s.aG (i,o,res) r (fun e=>hi (h (i,o,res) (by simp) e))
theorem tO(U:List Nat):∀(pre post:List HR) (s:St),app U (pre++post) s=app U post (app U pre s)
 |[],_,_=>rfl
 |(i,o,res)::pre,post,s=>by
  simp only[List.cons_append,app]
  exact tO U pre post _
theorem zw{U:List Nat}{pre post:List HR}{x:HR}{r:Nat}(s:St)(h1:∀y∈pre,iD y=some r→y.1 ∉ U)(h2:∀y∈post,iD y=some r→y.1∈U)(hx:x.1∈U) :
  (app U (pre++x::post) s).aG.get r=(app [] pre s).aG.get r:=by
 rw[tO]
 obtain⟨i,o,res⟩:=x
 show(app U post (if i∈U then app U pre s else hAdd (app U pre s) o.dst res)).aG.get r=_
 rw[if_pos hx,qe U r post _ h2]
 exact oh [] U r pre s s (fun y hy hw=>⟨fun h=>(by cases h),fun h=>absurd h (h1 y hy hw)⟩) rfl
theorem IA{U U':List Nat}{rs pre post:List HR}{x:HR}(CH:rs=pre++x::post)(hd:tM rs)(hU:∀j,j∈U'↔j∈U∧j≠x.1)(BD:∀y∈rs,y.1=x.1→y=x)(YN:x ∉ pre)(O2:x.1∈U)
  (Jg:∀r,iD x=some r→∀y∈pre,iD y=some r→y.1 ∉ U) (zx:∀r,iD x=some r→∀y∈post,iD y=some r→y.1∈U) (TW:x ∉ post) (s:St) :
  Mw (hAdd (app U rs s) x.2.1.dst x.2.2) (app U' rs s):=by
 have hx:x∈rs:=by rw[CH];simp
 have CB:x.1 ∉ U':=fun h=>((hU _).1 h).2 rfl
 refine⟨fun t => ?_,fun r => ?_⟩
 ·rw[zv]
  by_cases ht:x.2.1.dst=some t
  ·rw[if_pos ht,kP U' t x ht CB rs s hd hx]
  ·rw[if_neg ht]
   by_cases hy:∃y∈rs,y.2.1.dst=some t∧y.1 ∉ U
   ·obtain⟨y,hy,QM,SY⟩:=hy
    rw[kP U t y QM SY rs s hd hy,kP U' t y QM (fun h=>SY ((hU _).1 h).1) rs s hd hy]
   ·have h1:∀y∈rs,y.2.1.dst=some t→y.1∈U:=fun y Je MH=>Classical.byContradiction fun hc=>hy ⟨y,Je,MH,hc⟩
    rw[jh U t rs s h1,jh U' t rs s (fun y Je MH=>(hU _).2 ⟨h1 y Je MH,fun e=>ht (by rw[←BD y Je e];exact MH)⟩)]
 ·by_cases hw:iD x=some r
  ·have e1:(app U' rs s).aG.get r=(xX (app U' pre s).aG x.2.1.dst x.2.2).get r:=by
    rw[CH,tO]
    obtain⟨i,o,res⟩:=x
    show(app U' post (if i∈U' then app U' pre s else hAdd (app U' pre s) o.dst res)).aG.get r=_
    rw[if_neg CB,qe U' r post _ (fun y hy Rm=>(hU _).2 ⟨zx r hw y hy Rm,fun e=>TW (by rw[←BD y (by rw[CH];simp[hy]) e];exact hy)⟩)]
    rfl
   rw[e1]
   show _=(xX (app U rs s).aG x.2.1.dst x.2.2).get r
   refine BC _ _ x r ?_
   rw[CH,zw s (Jg r hw) (zx r hw) O2]
   exact oh [] U' r pre s s (fun y hy Rm=>⟨fun h=>(by cases h),fun h=>absurd ((hU _).1 h).1 (Jg r hw y hy Rm)⟩) rfl
  ·show _=(xX (app U rs s).aG x.2.1.dst x.2.2).get r
   rw[tN _ x r hw]
   refine oh U U' r rs s s (fun y hy Rm=>⟨fun h=>(hU _).2 ⟨h,fun e=>hw (by rw[←BD y hy e];exact Rm)⟩,fun h=>((hU _).1 h).1⟩) rfl
def Ba(P:Program)(T:j0)(n:Nat)(ops:Array Oper):List HR→List Hint→St→Prop
 |[],_,_=>True
 |(i,o,res)::rs,hs,s=>ops[i]? = some o∧CG P T n ops o (hs.headD .none) s=some res∧Ba P T n ops rs hs.tail (hAdd s o.dst res)
theorem En{env JV:Env}(x:Operand)(h:∀t,x = .tmp t→JV.get t=env.get t):cZ JV x=cZ env x:=by
 cases x with
 |tmp t=>exact h t rfl
 |const v=>rfl
 |func f=>rfl
 |global g=>rfl
theorem Gc{ρ ρ':Operand→Option EV}{op:Op}(hx:∀x∈op.operands,ρ' x=ρ x):CF ρ' op=CF ρ op:=by
 cases op<;>try rfl
 case load t x=>simp only[CF];rw[hx x (by simp[Op.operands])]
def wu(ρ:Operand→Option EV):Op→Option Nat
 |.load _ x=>match ρ x with
  |some (.ptr r _)=>some r
  |_=>none
 |.store _ x _=>match ρ x with
  |some (.ptr r _)=>some r
  |_=>none
 |_=>none
theorem JY{s s':St}(he:∀t,Operand.tmp t∈o.op.operands→s'.env.get t=s.env.get t)
  (hs:∀r,wu (cZ s.env) o.op=some r→s'.aG.get r=s.aG.get r):hU P T o h s'=hU P T o h s:=by
 have qZ:∀x∈o.op.operands,cZ s'.env x=cZ s.env x:=fun x hx=>En x (fun t ht=>he t (ht ▸ hx))
 have s6:b8 T s'.aG o.dst o.op (cZ s'.env) h=b8 T s.aG o.dst o.op (cZ s.env) h:=Ej qZ (fun t x r off ho hx=>hs r (by rw[ho];simp[wu,hx]))
 have sZ:CF (cZ s'.env) o.op=CF (cZ s.env) o.op:=Gc qZ
 have NZ:xj (cZ s'.env) o.op (b8 T s'.aG o.dst o.op (cZ s'.env) h)=xj (cZ s.env) o.op (b8 T s.aG o.dst o.op (cZ s.env) h):=by
  rw[s6];unfold xj;rw[sZ]
 unfold hU
 split
 ·rename_i t x y ho
  rw[A9 qZ (fun t x y r off ho hx=>hs r (by rw[ho];simp[wu,hx]))]
 ·rename_i c hc
  rw[hc] at qZ
  have TX:mH s'.env c.args.toList=mH s.env c.args.toList:=uU (fun x hx=>qZ x (by simp[Op.operands,Call.operands];exact .inr (by simpa using hx)))
  split
  ·rw[TX]
  ·rfl
  ·rfl
  ·exact NZ
 ·exact NZ
theorem MI(aI:hU P T o h s=some res){r:Nat}(hr:wu (cZ s.env) o.op=some r):res.rd=some r∨(res.new=none∧res.wr.map (·.1)=some r):=by
 unfold hU at aI
 split at aI
 ·rename_i t x y s6
  right
  split at aI
  ·rename_i r' sc ob SX
   injection aI with aI;subst aI
   refine⟨rfl,?_⟩
   rw[s6] at hr SX
   unfold wu at hr
   simp only at hr
   split at hr
   ·rename_i q off hq
    injection hr with hr;subst hr
    rw[CE SX hq];rfl
   ·cases hr
  ·cases aI
 ·rename_i c s6
  rw[s6] at hr
  cases hr
 ·left
  unfold xj at aI
  split at aI
  ·injection aI with aI;subst aI
   show CF (cZ s.env) o.op=some r
   rename_i D6 YO _ _ _
   cases ho:o.op<;>rw[ho] at hr<;>first|(cases hr;done)|skip
   ·simpa[wu,CF] using hr
   ·rename_i t x y;exact absurd ho (D6 t x y)
  ·cases aI
end
end Go.Proofs.YtllmkadmohkbfaaGreatDoor.Sym
