/- Lemmas for the statements of this seat. -/
import Derived.Test.YtllmkadmohkbfaaGreatDoorVSymO
namespace Go.Proofs.YtllmkadmohkbfaaGreatDoor.Sym
open Go Go.RowKit
theorem qB{ρ ρ':Operand→Option EV} : ∀{l:List (Nat×Operand)},(∀x∈l.map (·.2),ρ' x=ρ x)→pD ρ' l=pD ρ l
 |[],_=>rfl
 |(i,x)::r,h=>by
  unfold pD
  rw[h x (by simp),qB (l:=r) (fun y hy=>h y (by simp at hy ⊢;exact .inr hy))]
theorem FR{T:kL}{aG xJ:aS}{dst:Option Nat}{op:Op}{ρ ρ':Operand→Option EV}{h:Hint}(hx:∀x∈op.operands,ρ' x=ρ x)
  (hs:∀t x r off,op = .load t x→ρ x=some (.ptr r off)→xJ.get r=aG.get r):cf T xJ dst op ρ' h=cf T aG dst op ρ h:=by
 cases op<;>simp only[Op.operands] at hx<;>simp only[cf]
 case move x=>rw[hx x (by simp)]
 case assign x=>rw[hx x (by simp)]
 case pick c a b =>
  have h1:=hx c (by simp)
  have h2:=hx a (by simp)
  have h3:=hx b (by simp)
  have h4:∀d:Bool,ρ' (bif d then a else b)=ρ (bif d then a else b):=fun d=>by cases d<;>simp[h2,h3]
  rw[h1]
  simp only[h4]
 case box t x=>rw[hx x (by simp)]
 case build t ps=>rw[qB (fun x D8=>hx x (by simpa using D8))]
 case buildSlice t n ps=>rw[qB (fun x D8=>hx x (by simpa using D8))]
 case load t x =>
  have h1:=hx x (by simp)
  rw[h1]
  cases T.get t with
  |none=>rfl
  |some d =>
   cases hr:ρ x with
   |none=>rfl
   |some e =>
    cases e with
    |ptr r off=>simp only[hs t x r off rfl hr]
    |_=>rfl
 case nilCheck x=>rw[hx x (by simp)]
 case binOp op t x y yt=>rw[hx x (by simp),hx y (by simp)]
 case unOp op t x=>rw[hx x (by simp)]
 case convert s t x=>rw[hx x (by simp)]
 case makeInterface t x=>rw[hx x (by simp)]
 case makeFunc fn f1 cap =>
  have h1:∀x∈cap.toList,ρ' x=ρ x:=fun x D8=>hx x (by simp only[Array.mem_append];exact .inr (by simpa using D8))
  generalize cap.toList=l at h1 ⊢
  generalize f1.toList=l1
  cases fn<;>cases l1<;>try rfl
  rcases l with _|⟨x,_|⟨y,l⟩⟩
  ·rfl
  ·simp only[h1 x (by simp)]
  ·rfl
 case makeSlice t x y=>rw[hx x (by simp),hx y (by simp)]
 case slice t x lo hi mx =>
  have h1:=hx x (by simp)
  have h2:∀d:EV,Oc ρ' lo d=Oc ρ lo d:=fun d=>by
   cases lo with
   |none=>rfl
   |some y=>exact hx y (by simp)
  have h3:∀d:EV,Oc ρ' hi d=Oc ρ hi d:=fun d=>by
   cases hi with
   |none=>rfl
   |some y=>exact hx y (by simp)
  simp only[h1,h2,h3]
 case fieldAddr t x f=>rw[hx x (by simp)]
 case field t x f=>rw[hx x (by simp)]
 case indexAddr t x y=>rw[hx x (by simp),hx y (by simp)]
 case index t x i=>rw[hx x (by simp),hx i (by simp)]
 case extract x i=>rw[hx x (by simp)]
 case typeAssert x xt t ok=>cases ok<;>simp only[hx x (by simp)]
 case call c =>
  obtain⟨cl,args,LA⟩:=c
  simp only
  split
  ·rename_i x t kg _
   rw[hx x (by simp[Call.operands,Om kg])]
  ·rename_i x y kg
   rw[hx x (by simp[Call.operands,zK kg]),hx y (by simp[Call.operands,zK kg])]
  ·rename_i x y kg
   rw[hx x (by simp[Call.operands,zK kg]),hx y (by simp[Call.operands,zK kg])]
  ·rfl
theorem wD{env LY:Env} : ∀{l:List Operand},(∀x∈l,dw LY x=dw env x)→nQ LY l=nQ env l
 |[],_=>rfl
 |x::r,h=>by
  unfold nQ
  rw[h x (by simp),wD (l:=r) (fun y hy=>h y (by simp[hy]))]
structure XR where
 val:EV
 new:Option SC
 wr:Option (Nat×SC)
 rd:Option Nat
 ob:List Prop
def storeAt(T:kL)(op:Op)(dst:Option Nat)(h:Hint)(ρ:Operand→Option EV)(aG:aS):Option (Nat×SC×List Prop) :=
 match op,dst with
 |.store t x y,none=>match T.get t,ρ x,ρ y with
  |some d,some (.ptr r off),some e=>match rC e,aG.get r with
   |some cs,some sc=>bif Nat.beq cs.length d.size&&Nat.blt r 999999 then
     match h with
     |.cells sc'=>some (r,sc',[off+cs.length≤sc.sE.length,fk sc.sE off cs=sc'.sE])
     |_=>match sc with
      |.lit cells=>bif Nat.ble (off+cs.length) cells.length then some (r,.lit (fk cells off cs),[]) else none
      |_=>none
    else none
   |_,_=>none
  |_,_,_=>none
 |_,_=>none
theorem Ea{T:kL}{o:Oper}{h:Hint}{s:St}{r:Nat}{sc:SC}{ob:List Prop}(aI:storeAt T o.op o.dst h (dw s.env) s.aG=some (r,sc,ob)) :
  qS T o h s=some (⟨s.env,aS.set s.aG r sc⟩,ob)∧o.dst=none:=by
 unfold storeAt at aI
 split at aI
 ·rename_i t x y uH FH
  refine⟨?_,FH⟩
  unfold qS
  rw[uH,FH]
  simp only
  split at aI
  ·rename_i d r' off e hd hx hy
   simp only[hd,hx,hy]
   split at aI
   ·rename_i cs I9 AH pr
    simp only[AH,pr]
    cases hl:(Nat.beq cs.length d.size&&Nat.blt r' 999999) with
    |false=>simp[hl] at aI
    |true =>
     simp only[hl,cond_true] at aI ⊢
     split at aI
     ·injection aI with aI;injection aI with h1 h2;injection h2 with h2 h3
      subst h1;subst h2;subst h3
      rfl
     ·rename_i di
      split at aI
      ·rename_i cells
       cases hle:Nat.ble (off+cs.length) cells.length with
       |false=>simp[hle] at aI
       |true =>
        simp only[hle,cond_true] at aI
        injection aI with aI;injection aI with h1 h2;injection h2 with h2 h3
        subst h1;subst h2;subst h3
        cases h<;>first|(simp only[hle,cond_true];done)|exact absurd rfl (di _)
      ·cases aI
   ·cases aI
  ·cases aI
 ·cases aI
theorem CI{T:kL}{op:Op}{dst:Option Nat}{h:Hint}{ρ ρ':Operand→Option EV}{aG xJ:aS}(hx:∀x∈op.operands,ρ' x=ρ x)
  (hs:∀t x y r off,op = .store t x y→ρ x=some (.ptr r off)→xJ.get r=aG.get r):storeAt T op dst h ρ' xJ=storeAt T op dst h ρ aG:=by
 unfold storeAt
 split
 ·rename_i t x y
  simp only[Op.operands] at hx
  rw[hx x (by simp),hx y (by simp)]
  split
  ·rename_i d r off e hd hr hy
   rw[hs t x y r off rfl hr]
  ·rfl
 ·rfl
theorem Eb{T:kL}{t:TypeId}{x y:Operand}{dst:Option Nat}{h:Hint}{ρ:Operand→Option EV}{aG:aS}{r r' off:Nat}{sc:SC}{ob:List Prop}
  (aI:storeAt T (.store t x y) dst h ρ aG=some (r',sc,ob)) (hx:ρ x=some (.ptr r off)):r'=r:=by
 unfold storeAt at aI
 cases dst with
 |some d=>cases aI
 |none =>
  simp only[hx] at aI
  cases hd:T.get t with
  |none=>simp[hd] at aI
  |some d =>
   simp only[hd] at aI
   cases hy:ρ y with
   |none=>simp[hy] at aI
   |some e =>
    simp only[hy] at aI
    split at aI
    ·rename_i cs I9 AH pr
     cases hl:(Nat.beq cs.length d.size&&Nat.blt r 999999) with
     |false=>simp[hl] at aI
     |true =>
      simp only[hl,cond_true] at aI
      split at aI
      ·injection aI with aI;injection aI with h1 h2;exact h1.symm
      ·split at aI
       ·rename_i cells
        cases hle:Nat.ble (off+cs.length) cells.length with
        |false=>simp[hle] at aI
        |true =>
         simp only[hle,cond_true] at aI
         injection aI with aI;injection aI with h1 h2;exact h1.symm
       ·cases aI
    ·cases aI
def Ec(ρ:Operand→Option EV):Op→Option Nat
 |.load _ x=>match ρ x with
  |some (.ptr r _)=>some r
  |_=>none
 |_=>none
def yN(ρ:Operand→Option EV)(op:Op):Option nZ→Option XR
 |some res=>some ⟨res.val,res.new,none,Ec ρ op,res.ob⟩
 |none=>none
theorem Bb(sout:aS):∀aG:aS,lR [] sout aG=aG
 |[]=>rfl
 |(x,sc)::aG=>by simp only[lR,assoc,Bb sout aG,Bool.cond_self]
def LZ:Operand→Bool
 |.const (.slice none 0 0)=>true
 |_=>false
theorem L0{env:Env}{x:Operand}(h:LZ x=false):FN true env x=dw env x:=by
 unfold FN
 split
 ·rw[LZ] at h;cases h
 ·rfl
theorem FT(env:Env):∀(l:List Operand) {ps:List PV},l.any LZ=false→nQ env l=some ps→C8 true env (assoc []) l=some (ps.map EV.pv)
 |[],ps,_,h=>by injection h with h;subst h;rfl
 |x::l,ps,hn,h=>by
  rw[List.any_cons,Bool.or_eq_false_iff] at hn
  unfold nQ at h
  split at h
  ·rename_i p qs hx hq
   injection h with h;subst h
   unfold C8
   rw[L0 hn.1,hx,FT env l hn.2 hq]
   rfl
  ·cases h
def hU(P:Program)(T:kL)(o:Oper)(h:Hint)(s:St):Option XR :=
 match o.op with
 |.store _ _ _=>match storeAt T o.op o.dst h (dw s.env) s.aG with
  |some (r,sc,ob)=>some ⟨.dead,none,some (r,sc),none,ob⟩
  |none=>none
 |.call c=>match c.callee with
  |.value (.func f)=>match h,nQ s.env c.args.toList with
   |.pv r,some ps=>some ⟨.pv r,none,none,none,[fH P f ps r]⟩
   |.bO [] (some (y,d)) (.row y1 off len sz) [(y2,sc)],some ps=>bif Nat.beq y y1&&Nat.beq y y2&&jB sc&&xN o.dst d && !(c.args.toList.any LZ)&&Nat.blt y 999999 then
     some ⟨.row d off len sz,some sc,none,none,[av P f (ps.map EV.pv) [] (.row y off len sz) [(y,sc)]]⟩ else none
   |_,_=>none
  |.builtin .append=>none
  |.builtin .copy=>none
  |_=>yN (dw s.env) o.op (cf T s.aG o.dst o.op (dw s.env) h)
 |_=>yN (dw s.env) o.op (cf T s.aG o.dst o.op (dw s.env) h)
def pI(s:St)(dst:Option Nat):Option SC→Bool
 |none=>true
 |some _=>match dst with
  |none=>false
  |some d=>(s.aG.get d).isNone&&Nat.blt d 999999
def Ed(P:Program)(T:kL)(n:Nat)(ops:Array Oper)(o:Oper)(h:Hint)(s:St):Option XR :=
 bif lu n o.dst then
  match o.guard with
  |none=>match hU P T o h s with
   |some res=>bif pI s o.dst res.new then some res else none
   |none=>none
  |some (j,want)=>match (ops[j]?).bind (·.dst) with
   |some t=>match s.env.get t with
    |some (.pv (.bool b))=>match h with
     |.skip=>some ⟨.pv (.aB []),none,none,none,[b = !want]⟩
     |h=>match hU P T o h s with
      |some res=>bif pI s o.dst res.new then some ⟨res.val,res.new,res.wr,res.rd,(b=want)::res.ob⟩ else none
      |none=>none
    |some (.pv (.aB _))=>match h with
     |.skip=>some ⟨.pv (.aB []),none,none,none,[]⟩
     |_=>none
    |_=>none
   |none=>none
 else none
def zM(aG:aS)(dst:Option Nat)(res:XR):aS :=
 match res.new,dst with
  |some sc,some d=>bif Nat.blt d 999999 then (d,sc)::aG else aG
  |_,_=>match res.wr with
   |some (r,sc)=>aS.set aG r sc
   |none=>aG
def hAdd(s:St)(dst:Option Nat)(res:XR):St:=⟨oC s.env dst res.val,zM s.aG dst res⟩
section
variable {P:Program} {T:kL} {Γ:Ctx} {s s':St} {a:Act} {w:World} {β:Nat→Option Nat} {I:Nat→Prop} {o:Oper} {h:Hint} {ob:List Prop} {res:XR} {ops:Array Oper}
theorem FU{r0:nZ}{rd:Option Nat}(hf:pI s o.dst r0.new=true):xH s o.dst r0=some (hAdd s o.dst ⟨r0.val,r0.new,none,rd,r0.ob⟩,r0.ob):=by
 obtain⟨val,new,ob⟩:=r0
 unfold xH hAdd zM
 cases new with
 |none=>rfl
 |some sc =>
  unfold pI at hf
  simp only
  cases hd:o.dst with
  |none=>rw[hd] at hf;cases hf
  |some d =>
   rw[hd] at hf
   simp only at hf ⊢
   rw[Bool.and_eq_true] at hf
   cases hg:s.aG.get d with
   |none=>simp only[hf.2,cond_true]
   |some _=>rw[hg] at hf;cases hf.1
theorem FV(hT:nM P T)(hs:∀r,bS Γ.sin r→Γ.n≤r)(hr:Rel Γ s a w)(aI:hU P T o h s=some res)(hf:pI s o.dst res.new=true)(hd:lu Γ.n o.dst=true)(cr:dP res.ob)
  {K:Act→World→Prop} {Q:Exit→Act→World→Prop} (hk:∀a' w',Rel Γ (hAdd s o.dst res) a' w'→K a' w'):o.wp P a w K Q:=by
 have gen:yN (dw s.env) o.op (cf T s.aG o.dst o.op (dw s.env) h)=some res→o.wp P a w K Q:=by
  intro aq
  unfold yN at aq
  split at aq
  ·rename_i r0 Tq
   injection aq with aq;subst aq
   obtain⟨β,I,hr⟩:=hr
   obtain⟨v,w',hex,AJ⟩:=yE hT hr.pre Tq cr
   have:=(FE hs hr hd AJ (FU (rd:=Ec (dw s.env) o.op) hf)).1
   unfold Oper.wp
   rw[hex]
   exact hk _ _ this
  ·cases aq
 unfold hU at aI
 split at aI
 ·rename_i t x y uH
  split at aI
  ·rename_i r sc ob U6
   injection aI with aI;subst aI
   obtain⟨h1,h2⟩:=Ea U6
   refine sG hT hr h1 cr (fun a' w' eb=>hk a' w' ?_)
   unfold hAdd zM
   rw[h2]
   exact eb
  ·cases aI
 ·rename_i c uH
  split at aI
  ·rename_i f sD
   split at aI
   ·rename_i r ps ov
    injection aI with aI;subst aI
    have hc:ta P Γ.n o (.pv r) s=some (⟨oC s.env o.dst (.pv r),s.aG⟩,[fH P f ps r]):=by
     unfold ta
     rw[uH]
     simp only[sD,ov,hd,cond_true]
    exact tc hr hc cr (fun a' w' h=>hk a' w' h)
   ·rename_i y d y1 off len sz y2 sc ps ov
    cases hb:(Nat.beq y y1&&Nat.beq y y2&&jB sc&&xN o.dst d && !(c.args.toList.any LZ)&&Nat.blt y 999999) with
    |false=>rw[hb] at aI;cases aI
    |true =>
     simp only[hb,cond_true] at aI
     injection aI with aI;subst aI
     simp only[Bool.and_eq_true] at hb
     obtain⟨⟨⟨⟨⟨b1,b2⟩,b3⟩,b4⟩,b5⟩,b6⟩:=hb
     rw[Bool.not_eq_true'] at b5
     have e1:y=y1:=Nat.eq_of_beq_eq_true b1
     have e2:y=y2:=Nat.eq_of_beq_eq_true b2
     have e3:=xO b4
     subst e1;subst e2
     have ZD:s.aG.get d=none:=by
      unfold pI at hf
      rw[e3] at hf
      simp only[Bool.and_eq_true] at hf
      simpa using hf.1
     have sP:Nat.blt d 999999=true:=by
      unfold pI at hf
      rw[e3] at hf
      simp only[Bool.and_eq_true] at hf
      exact hf.2
     have ZE:aS.get [(y,sc)] y=some sc:=by rw[aS.kv (Nat.le_of_ble_eq_true b6),Nat.beq_refl];rfl
     have uR:Nat.blt d Γ.n=true:=by rw[e3] at hd;exact hd
     have hc:qU P Γ.n o (.bO [] (some (y,d)) (.row y off len sz) [(y,sc)]) s=some (⟨oC s.env o.dst (.row d off len sz),(d,sc)::s.aG⟩,[av P f (ps.map EV.pv) [] (.row y off len sz) [(y,sc)]]):=by
      unfold qU
      rw[uH]
      simp only[sD,Tk,OC,List.append_nil,FT _ _ b5 ov,hd,mH,List.all_nil,List.all_cons,b3,b6,ZE,Nat.beq_refl,cond_true,ZD,kT,uK,uR,Bb,my,Option.map_some,xN,Option.isSome_none,Bool.false_or,Bool.and_true,Bool.false_and,givenBy,List.filter_nil,List.map_nil,fC]
     refine sH hs hr hc cr (fun a' w' h=>hk a' w' ?_)
     unfold hAdd zM
     simp only[e3,sP,cond_true] at h ⊢
     exact h
   ·cases aI
  ·cases aI
  ·cases aI
  ·exact gen aI
 ·exact gen aI
theorem HY(hT:nM P T)(hs:∀r,bS Γ.sin r→Γ.n≤r)(hr:Rel Γ s a w)(aI:Ed P T Γ.n ops o h s=some res)(cr:dP res.ob)
  {K:Act→World→Prop} {Q:Exit→Act→World→Prop} (hk:∀a' w',Rel Γ (hAdd s o.dst res) a' w'→K a' w') :
  if Region.wanted o (yielded ops a.tmps) then o.wp P a w K Q∨(o.asks P a w∧LetsOut Q) else K (a.put o.dst undef) w:=by
 unfold Ed at aI
 cases hd:lu Γ.n o.dst with
 |false=>simp[hd] at aI
 |true =>
  simp only[hd,cond_true] at aI
  split at aI
  ·rename_i hg
   have hw:Region.wanted o (yielded ops a.tmps)=true:=by simp[Region.wanted,hg]
   rw[if_pos hw]
   split at aI
   ·rename_i Q5 oD
    cases hf:pI s o.dst Q5.new with
    |false=>simp[hf] at aI
    |true =>
     simp only[hf,cond_true] at aI
     injection aI with aI;subst aI
     exact .inl (FV hT hs hr oD hf hd cr hk)
   ·cases aI
  ·rename_i j want hg
   split at aI
   ·rename_i t ht
    split at aI
    ·rename_i b hb
     have hy:yielded ops a.tmps j=some b:=by
      obtain⟨β,I,eb⟩:=hr
      have hv:Rd I w (.bool b) (a.tmps.getD t undef):=eb.env t _ hb
      have Fh:a.tmps.getD t undef = .bool b:=by generalize a.tmps.getD t undef=v at hv;cases hv;rfl
      unfold yielded
      rw[ht]
      simp only[Option.bind_some]
      rw[Array.getD_eq_getD_getElem?] at Fh
      cases hx:a.tmps[t]? with
      |none=>rw[hx] at Fh;simp[undef] at Fh
      |some v=>rw[hx] at Fh;simp at Fh;subst Fh;rfl
     have hw:Region.wanted o (yielded ops a.tmps)=(b==want):=by
      simp only[Region.wanted,hg,hy]
      cases b<;>cases want<;>rfl
     split at aI
     ·injection aI with aI;subst aI
      have VX:b = !want:=cr
      rw[if_neg (by rw[hw,VX];cases want<;>simp)]
      obtain⟨β,I,eb⟩:=hr
      exact hk _ _ ⟨β,I,eb.put (eT hd) (wB _ _)⟩
     ·split at aI
      ·rename_i Q5 oD
       cases hf:pI s o.dst Q5.new with
       |false=>simp[hf] at aI
       |true =>
        simp only[hf,cond_true] at aI
        injection aI with aI;subst aI
        obtain⟨g1,g2⟩:=cr.cons
        rw[if_pos (by rw[hw,g1];simp)]
        exact .inl (FV hT hs hr oD hf hd g2 hk)
      ·cases aI
    ·rename_i vs hb
     split at aI
     ·injection aI with aI;subst aI
      obtain⟨β,I,eb⟩:=hr
      rw[if_neg (by rw[A4 ht (eb.env t _ hb) hg];simp)]
      exact hk _ _ ⟨β,I,eb.put (eT hd) (wB _ _)⟩
     ·cases aI
    ·cases aI
   ·cases aI
abbrev HR:=Nat×Oper×XR
def app(U:List Nat):List HR→St→St
 |[],s=>s
 |(i,o,res)::rs,s=>app U rs (if i∈U then s else hAdd s o.dst res)
def vk:List HR→Prop
 |[]=>True
 |(_,o,_)::rs=>(∀d,o.dst=some d→∀x∈rs,x.2.1.dst≠some d)∧vk rs
def ju(x:HR):Option Nat :=
 match x.2.2.new,x.2.1.dst with
 |some _,some d=>some d
 |_,_=>x.2.2.wr.map (·.1)
theorem Bc(s:St)(dst:Option Nat)(res:XR)(t:Nat):(hAdd s dst res).env.get t=if dst=some t then some res.val else s.env.get t:=by
 cases dst with
 |none=>simp[hAdd,oC]
 |some d =>
  simp only[hAdd,oC,Env.get]
  cases hb:Nat.beq d t with
  |true=>have:d=t:=Nat.eq_of_beq_eq_true hb;subst this;simp
  |false =>
   have:d≠t:=by intro e;subst e;simp at hb
   simp[this]
theorem vl(aG:aS)(x:HR)(r:Nat)(h:ju x≠some r):(zM aG x.2.1.dst x.2.2).get r=aG.get r:=by
 unfold ju at h
 unfold zM
 split
 ·rename_i sc d hn hd
  simp only[hn,hd] at h
  cases sP:Nat.blt d 999999 with
  |false=>rfl
  |true =>
   simp only[cond_true]
   rw[aS.kv (Nat.le_of_ble_eq_true sP),ij (fun e=>h (by rw[e]))]
   rfl
 ·rename_i di
  split at h
  ·rename_i sc d hn hd
   exact absurd hd (di _ _ hn)
  ·split
   ·rename_i r' sc hw
    rw[hw] at h
    simp only[Option.map_some,ne_eq,Option.some.injEq] at h
    rw[aS.lP,if_neg (fun e=>h e.1.symm)]
   ·rfl
theorem Da(aG xJ:aS)(x:HR)(r:Nat)(h:xJ.get r=aG.get r):(zM xJ x.2.1.dst x.2.2).get r=(zM aG x.2.1.dst x.2.2).get r:=by
 unfold zM
 split
 ·rename_i sc d _ _
  cases sP:Nat.blt d 999999 with
  |false=>exact h
  |true =>
   simp only[cond_true]
   rw[aS.kv (Nat.le_of_ble_eq_true sP),aS.kv (Nat.le_of_ble_eq_true sP),h]
 ·split
  ·rw[aS.lP,aS.lP,h]
  ·exact h
theorem jV(U:List Nat)(t:Nat):∀(rs:List HR) (s:St),(∀x∈rs,x.2.1.dst=some t→x.1∈U)→(app U rs s).env.get t=s.env.get t
 |[],s,_=>rfl
 |(i,o,res)::rs,s,h=>by
  simp only[app]
  rw[jV U t rs _ (fun x hx=>h x (by simp[hx]))]
  by_cases hi:i∈U
  ·rw[if_pos hi]
  ·rw[if_neg hi,Bc,if_neg (fun e=>hi (h (i,o,res) (by simp) e))]
theorem lS(U:List Nat)(t:Nat)(x:HR)(ht:x.2.1.dst=some t)(hu:x.1 ∉ U)(rs:List HR):∀(s:St),vk rs→x∈rs→(app U rs s).env.get t=some x.2.2.val:=by
 induction rs with
 |nil=>intro s _ hx;cases hx
 |cons y rs ih =>
  intro s hd hx
  obtain⟨i,o,res⟩:=y
  show(app U rs (if i∈U then s else hAdd s o.dst res)).env.get t=_
  rcases List.mem_cons.1 hx with hx|hx
  ·subst hx
   rw[jV U t rs _ (fun y hy e=>absurd e (hd.1 t ht y hy)),if_neg hu,Bc,if_pos ht]
  ·exact ih _ hd.2 hx
theorem pJ(U U':List Nat)(r:Nat):∀(rs:List HR) (s s':St),(∀y∈rs,ju y=some r→(y.1∈U↔y.1∈U'))→s'.aG.get r=s.aG.get r→(app U' rs s').aG.get r=(app U rs s).aG.get r
 |[],s,s',_,h=>h
 |(i,o,res)::rs,s,s',hU,h=>by
  simp only[app]
  refine pJ U U' r rs _ _ (fun y hy=>hU y (by simp[hy])) ?_
  by_cases hw:ju (i,o,res)=some r
  ·have hi:=hU (i,o,res) (by simp) hw
   by_cases h1:i∈U
   ·rw[if_pos h1,if_pos (hi.1 h1)];exact h
   ·rw[if_neg h1,if_neg (fun h2=>h1 (hi.2 h2))]
    exact Da s.aG s'.aG (i,o,res) r h
  ·have h1:∀(b:Prop) [Decidable b] (s:St),(if b then s else hAdd s o.dst res).aG.get r=s.aG.get r:=fun b _ s=>by
    split
    ·rfl
    ·exact vl s.aG (i,o,res) r hw
   rw[h1,h1];exact h
theorem rL(U:List Nat)(r:Nat):∀(rs:List HR) (s:St),(∀y∈rs,ju y=some r→y.1∈U)→(app U rs s).aG.get r=s.aG.get r
 |[],s,_=>rfl
 |(i,o,res)::rs,s,h=>by
  simp only[app]
  rw[rL U r rs _ (fun y hy=>h y (by simp[hy]))]
  by_cases hi:i∈U
  ·rw[if_pos hi]
  ·rw[if_neg hi]
   exact vl s.aG (i,o,res) r (fun e=>hi (h (i,o,res) (by simp) e))
theorem vm(U:List Nat):∀(pre post:List HR) (s:St),app U (pre++post) s=app U post (app U pre s)
 |[],_,_=>rfl
 |(i,o,res)::pre,post,s=>by
  simp only[List.cons_append,app]
  exact vm U pre post _
theorem Be{U:List Nat}{pre post:List HR}{x:HR}{r:Nat}(s:St)(h1:∀y∈pre,ju y=some r→y.1 ∉ U)(h2:∀y∈post,ju y=some r→y.1∈U)(hx:x.1∈U) :
  (app U (pre++x::post) s).aG.get r=(app [] pre s).aG.get r:=by
 rw[vm]
 obtain⟨i,o,res⟩:=x
 show(app U post (if i∈U then app U pre s else hAdd (app U pre s) o.dst res)).aG.get r=_
 rw[if_pos hx,rL U r post _ h2]
 exact pJ [] U r pre s s (fun y hy hw=>⟨fun h=>(by cases h),fun h=>absurd h (h1 y hy hw)⟩) rfl
theorem Ky{U U':List Nat}{rs pre post:List HR}{x:HR}(Kz:rs=pre++x::post)(hd:vk rs)(hU:∀j,j∈U'↔j∈U∧j≠x.1)(Db:∀y∈rs,y.1=x.1→y=x)(hnp:x ∉ pre)(Q6:x.1∈U)
  (Lh:∀r,ju x=some r→∀y∈pre,ju y=some r→y.1 ∉ U) (z8:∀r,ju x=some r→∀y∈post,ju y=some r→y.1∈U) (V6:x ∉ post) (s:St) :
  Ow (hAdd (app U rs s) x.2.1.dst x.2.2) (app U' rs s):=by
 have hx:x∈rs:=by rw[Kz];simp
 have D8:x.1 ∉ U':=fun h=>((hU _).1 h).2 rfl
 refine⟨fun t => ?_,fun r => ?_⟩
 ·rw[Bc]
  by_cases ht:x.2.1.dst=some t
  ·rw[if_pos ht,lS U' t x ht D8 rs s hd hx]
  ·rw[if_neg ht]
   by_cases hy:∃y∈rs,y.2.1.dst=some t∧y.1 ∉ U
   ·obtain⟨y,hy,SM,U7⟩:=hy
    rw[lS U t y SM U7 rs s hd hy,lS U' t y SM (fun h=>U7 ((hU _).1 h).1) rs s hd hy]
   ·have h1:∀y∈rs,y.2.1.dst=some t→y.1∈U:=fun y Lg OH=>Classical.byContradiction fun hc=>hy ⟨y,Lg,OH,hc⟩
    rw[jV U t rs s h1,jV U' t rs s (fun y Lg OH=>(hU _).2 ⟨h1 y Lg OH,fun e=>ht (by rw[←Db y Lg e];exact OH)⟩)]
 ·by_cases hw:ju x=some r
  ·have e1:(app U' rs s).aG.get r=(zM (app U' pre s).aG x.2.1.dst x.2.2).get r:=by
    rw[Kz,vm]
    obtain⟨i,o,res⟩:=x
    show(app U' post (if i∈U' then app U' pre s else hAdd (app U' pre s) o.dst res)).aG.get r=_
    rw[if_neg D8,rL U' r post _ (fun y hy Tr=>(hU _).2 ⟨z8 r hw y hy Tr,fun e=>V6 (by rw[←Db y (by rw[Kz];simp[hy]) e];exact hy)⟩)]
    rfl
   rw[e1]
   show _=(zM (app U rs s).aG x.2.1.dst x.2.2).get r
   refine Da _ _ x r ?_
   rw[Kz,Be s (Lh r hw) (z8 r hw) Q6]
   exact pJ [] U' r pre s s (fun y hy Tr=>⟨fun h=>(by cases h),fun h=>absurd ((hU _).1 h).1 (Lh r hw y hy Tr)⟩) rfl
  ·show _=(zM (app U rs s).aG x.2.1.dst x.2.2).get r
   rw[vl _ x r hw]
   refine pJ U U' r rs s s (fun y hy Tr=>⟨fun h=>(hU _).2 ⟨h,fun e=>hw (by rw[←Db y hy e];exact Tr)⟩,fun h=>((hU _).1 h).1⟩) rfl
def CJ(P:Program)(T:kL)(n:Nat)(ops:Array Oper):List HR→List Hint→St→Prop
 |[],_,_=>True
 |(i,o,res)::rs,hs,s=>ops[i]? = some o∧Ed P T n ops o (hs.headD .none) s=some res∧CJ P T n ops rs hs.tail (hAdd s o.dst res)
theorem FW{env LY:Env}(x:Operand)(h:∀t,x = .tmp t→LY.get t=env.get t):dw LY x=dw env x:=by
 cases x with
 |tmp t=>exact h t rfl
 |const v=>rfl
 |func f=>rfl
 |global g=>rfl
theorem HZ{ρ ρ':Operand→Option EV}{op:Op}(hx:∀x∈op.operands,ρ' x=ρ x):Ec ρ' op=Ec ρ op:=by
 cases op<;>try rfl
 case load t x=>simp only[Ec];rw[hx x (by simp[Op.operands])]
def xV(ρ:Operand→Option EV):Op→Option Nat
 |.load _ x=>match ρ x with
  |some (.ptr r _)=>some r
  |_=>none
 |.store _ x _=>match ρ x with
  |some (.ptr r _)=>some r
  |_=>none
 |_=>none
theorem L4{s s':St}(he:∀t,Operand.tmp t∈o.op.operands→s'.env.get t=s.env.get t)
  (hs:∀r,xV (dw s.env) o.op=some r→s'.aG.get r=s.aG.get r):hU P T o h s'=hU P T o h s:=by
 have sO:∀x∈o.op.operands,dw s'.env x=dw s.env x:=fun x hx=>FW x (fun t ht=>he t (ht ▸ hx))
 have uH:cf T s'.aG o.dst o.op (dw s'.env) h=cf T s.aG o.dst o.op (dw s.env) h:=FR sO (fun t x r off ho hx=>hs r (by rw[ho];simp[xV,hx]))
 have uE:Ec (dw s'.env) o.op=Ec (dw s.env) o.op:=HZ sO
 have PW:yN (dw s'.env) o.op (cf T s'.aG o.dst o.op (dw s'.env) h)=yN (dw s.env) o.op (cf T s.aG o.dst o.op (dw s.env) h):=by
  rw[uH];unfold yN;rw[uE]
 unfold hU
 split
 ·rename_i t x y ho
  rw[CI sO (fun t x y r off ho hx=>hs r (by rw[ho];simp[xV,hx]))]
 ·rename_i c hc
  rw[hc] at sO
  have V7:nQ s'.env c.args.toList=nQ s.env c.args.toList:=wD (fun x hx=>sO x (by simp[Op.operands,Call.operands];exact .inr (by simpa using hx)))
  split
  ·rw[V7]
  ·rfl
  ·rfl
  ·exact PW
 ·exact PW
theorem OI(aI:hU P T o h s=some res){r:Nat}(hr:xV (dw s.env) o.op=some r):res.rd=some r∨(res.new=none∧res.wr.map (·.1)=some r):=by
 unfold hU at aI
 split at aI
 ·rename_i t x y uH
  right
  split at aI
  ·rename_i r' sc ob U6
   injection aI with aI;subst aI
   refine⟨rfl,?_⟩
   rw[uH] at hr U6
   unfold xV at hr
   simp only at hr
   split at hr
   ·rename_i q off hq
    injection hr with hr;subst hr
    rw[Eb U6 hq];rfl
   ·cases hr
  ·cases aI
 ·rename_i c uH
  rw[uH] at hr
  cases hr
 ·left
  unfold yN at aI
  split at aI
  ·injection aI with aI;subst aI
   show Ec (dw s.env) o.op=some r
   rename_i FF hnc _ _ _
   cases ho:o.op<;>rw[ho] at hr<;>first|(cases hr;done)|skip
   ·simpa[xV,Ec] using hr
   ·rename_i t x y;exact absurd ho (FF t x y)
  ·cases aI
end
end Go.Proofs.YtllmkadmohkbfaaGreatDoor.Sym
