/- Lemmas for the statements of this seat. -/
import Derived.Test.YtllmkadmohkbfaaGreatDoorWSymO
namespace Go.Proofs.YtllmkadmohkbfaaGreatDoor.Sym
open Go Go.RowKit
theorem xh{ρ ρ':Operand→Option EV} : ∀{l:List (Nat×Operand)},(∀x∈l.map (·.2),ρ' x=ρ x)→wo ρ' l=wo ρ l
 |[],_=>rfl
 |(i,x)::r,h=>by
  unfold wo
  rw[h x (by simp),xh (l:=r) (fun y hy=>h y (by simp at hy ⊢;exact .inr hy))]
theorem KZ{T:qU}{bp D0:cq}{dst:Option Nat}{op:Op}{ρ ρ':Operand→Option EV}{h:Hint}(hx:∀x∈op.operands,ρ' x=ρ x)
  (hs:∀t x r off,op = .load t x→ρ x=some (.ptr r off)→D0.get r=bp.get r):fF T D0 dst op ρ' h=fF T bp dst op ρ h:=by
 cases op<;>simp only[Op.operands] at hx<;>simp only[fF]
 case move x=>rw[hx x (by simp)]
 case assign x=>rw[hx x (by simp)]
 case pick c a b =>
  have h1:=hx c (by simp)
  have h2:=hx a (by simp)
  have h3:=hx b (by simp)
  have h4:∀d:Bool,ρ' (bif d then a else b)=ρ (bif d then a else b):=fun d=>by cases d<;>simp[h2,h3]
  rw[h1]
  simp only[h4]
 case box t x=>rw[hx x (by simp)]
 case build t ps=>rw[xh (fun x CR=>hx x (by simpa using CR))]
 case buildSlice t n ps=>rw[xh (fun x CR=>hx x (by simpa using CR))]
 case load t x =>
  have h1:=hx x (by simp)
  rw[h1]
  cases T.get t with
  |none=>rfl
  |some d =>
   cases hr:ρ x with
   |none=>rfl
   |some e =>
    cases e with
    |ptr r off=>simp only[hs t x r off rfl hr]
    |_=>rfl
 case nilCheck x=>rw[hx x (by simp)]
 case binOp op t x y yt=>rw[hx x (by simp),hx y (by simp)]
 case unOp op t x=>rw[hx x (by simp)]
 case convert s t x=>rw[hx x (by simp)]
 case makeInterface t x=>rw[hx x (by simp)]
 case makeFunc fn f1 cap =>
  have h1:∀x∈cap.toList,ρ' x=ρ x:=fun x CR=>hx x (by simp only[Array.mem_append];exact .inr (by simpa using CR))
  generalize cap.toList=l at h1 ⊢
  generalize f1.toList=l1
  cases fn<;>cases l1<;>try rfl
  rcases l with _|⟨x,_|⟨y,l⟩⟩
  ·rfl
  ·simp only[h1 x (by simp)]
  ·rfl
 case makeSlice t x y=>rw[hx x (by simp),hx y (by simp)]
 case slice t x lo hi mx =>
  have h1:=hx x (by simp)
  have h2:∀d:EV,Sn ρ' lo d=Sn ρ lo d:=fun d=>by
   cases lo with
   |none=>rfl
   |some y=>exact hx y (by simp)
  have h3:∀d:EV,Sn ρ' hi d=Sn ρ hi d:=fun d=>by
   cases hi with
   |none=>rfl
   |some y=>exact hx y (by simp)
  simp only[h1,h2,h3]
 case fieldAddr t x f=>rw[hx x (by simp)]
 case field t x f=>rw[hx x (by simp)]
 case indexAddr t x y=>rw[hx x (by simp),hx y (by simp)]
 case index t x i=>rw[hx x (by simp),hx i (by simp)]
 case extract x i=>rw[hx x (by simp)]
 case typeAssert x xt t ok=>cases ok<;>simp only[hx x (by simp)]
 case call c =>
  obtain⟨cl,args,Qe⟩:=c
  simp only
  split
  ·rename_i x t oc _
   rw[hx x (by simp[Call.operands,Sv oc])]
  ·rename_i x y oc
   rw[hx x (by simp[Call.operands,Fq oc]),hx y (by simp[Call.operands,Fq oc])]
  ·rename_i x y oc
   rw[hx x (by simp[Call.operands,Fq oc]),hx y (by simp[Call.operands,Fq oc])]
  ·rfl
theorem CU{env Qy:Env} : ∀{l:List Operand},(∀x∈l,iq Qy x=iq env x)→uo Qy l=uo env l
 |[],_=>rfl
 |x::r,h=>by
  unfold uo
  rw[h x (by simp),CU (l:=r) (fun y hy=>h y (by simp[hy]))]
structure XR where
 val:EV
 new:Option SC
 wr:Option (Nat×SC)
 rd:Option Nat
 ob:List Prop
def storeAt(T:qU)(op:Op)(dst:Option Nat)(h:Hint)(ρ:Operand→Option EV)(bp:cq):Option (Nat×SC×List Prop) :=
 match op,dst with
 |.store t x y,none=>match T.get t,ρ x,ρ y with
  |some d,some (.ptr r off),some e=>match yl e,bp.get r with
   |some cs,some sc=>bif Nat.beq cs.length d.size&&Nat.blt r 999999 then
     match h with
     |.cells sc'=>some (r,sc',[off+cs.length≤sc.zw.length,j7 sc.zw off cs=sc'.zw])
     |_=>match sc with
      |.lit cells=>bif Nat.ble (off+cs.length) cells.length then some (r,.lit (j7 cells off cs),[]) else none
      |_=>none
    else none
   |_,_=>none
  |_,_,_=>none
 |_,_=>none
theorem JE{T:qU}{o:Oper}{h:Hint}{s:St}{r:Nat}{sc:SC}{ob:List Prop}(bz:storeAt T o.op o.dst h (iq s.env) s.bp=some (r,sc,ob)) :
  xD T o h s=some (⟨s.env,cq.set s.bp r sc⟩,ob)∧o.dst=none:=by
 unfold storeAt at bz
 split at bz
 ·rename_i t x y Bc KQ
  refine⟨?_,KQ⟩
  unfold xD
  rw[Bc,KQ]
  simp only
  split at bz
  ·rename_i d r' off e hd hx hy
   simp only[hd,hx,hy]
   split at bz
   ·rename_i cs NZ Gg we
    simp only[Gg,we]
    cases hl:(Nat.beq cs.length d.size&&Nat.blt r' 999999) with
    |false=>simp[hl] at bz
    |true =>
     simp only[hl,cond_true] at bz ⊢
     split at bz
     ·injection bz with bz;injection bz with h1 h2;injection h2 with h2 h3
      subst h1;subst h2;subst h3
      rfl
     ·rename_i dk
      split at bz
      ·rename_i cells
       cases hle:Nat.ble (off+cs.length) cells.length with
       |false=>simp[hle] at bz
       |true =>
        simp only[hle,cond_true] at bz
        injection bz with bz;injection bz with h1 h2;injection h2 with h2 h3
        subst h1;subst h2;subst h3
        cases h<;>first|(simp only[hle,cond_true];done)|exact absurd rfl (dk _)
      ·cases bz
   ·cases bz
  ·cases bz
 ·cases bz
theorem Ip{T:qU}{op:Op}{dst:Option Nat}{h:Hint}{ρ ρ':Operand→Option EV}{bp D0:cq}(hx:∀x∈op.operands,ρ' x=ρ x)
  (hs:∀t x y r off,op = .store t x y→ρ x=some (.ptr r off)→D0.get r=bp.get r):storeAt T op dst h ρ' D0=storeAt T op dst h ρ bp:=by
 unfold storeAt
 split
 ·rename_i t x y
  simp only[Op.operands] at hx
  rw[hx x (by simp),hx y (by simp)]
  split
  ·rename_i d r off e hd hr hy
   rw[hs t x y r off rfl hr]
  ·rfl
 ·rfl
theorem JF{T:qU}{t:TypeId}{x y:Operand}{dst:Option Nat}{h:Hint}{ρ:Operand→Option EV}{bp:cq}{r r' off:Nat}{sc:SC}{ob:List Prop}
  (bz:storeAt T (.store t x y) dst h ρ bp=some (r',sc,ob)) (hx:ρ x=some (.ptr r off)):r'=r:=by
 unfold storeAt at bz
 cases dst with
 |some d=>cases bz
 |none =>
  simp only[hx] at bz
  cases hd:T.get t with
  |none=>simp[hd] at bz
  |some d =>
   simp only[hd] at bz
   cases hy:ρ y with
   |none=>simp[hy] at bz
   |some e =>
    simp only[hy] at bz
    split at bz
    ·rename_i cs NZ Gg we
     cases hl:(Nat.beq cs.length d.size&&Nat.blt r 999999) with
     |false=>simp[hl] at bz
     |true =>
      simp only[hl,cond_true] at bz
      split at bz
      ·injection bz with bz;injection bz with h1 h2;exact h1.symm
      ·split at bz
       ·rename_i cells
        cases hle:Nat.ble (off+cs.length) cells.length with
        |false=>simp[hle] at bz
        |true =>
         simp only[hle,cond_true] at bz
         injection bz with bz;injection bz with h1 h2;exact h1.symm
       ·cases bz
    ·cases bz
def JG(ρ:Operand→Option EV):Op→Option Nat
 |.load _ x=>match ρ x with
  |some (.ptr r _)=>some r
  |_=>none
 |_=>none
def EO(ρ:Operand→Option EV)(op:Op):Option uC→Option XR
 |some res=>some ⟨res.val,res.new,none,JG ρ op,res.ob⟩
 |none=>none
theorem GK(sout:cq):∀bp:cq,rN [] sout bp=bp
 |[]=>rfl
 |(x,sc)::bp=>by simp only[rN,assoc,GK sout bp,Bool.cond_self]
def Qz:Operand→Bool
 |.const (.slice none 0 0)=>true
 |_=>false
theorem QA{env:Env}{x:Operand}(h:Qz x=false):KV true env x=iq env x:=by
 unfold KV
 split
 ·rw[Qz] at h;cases h
 ·rfl
theorem K0(env:Env):∀(l:List Operand) {ps:List PV},l.any Qz=false→uo env l=some ps→IU true env (assoc []) l=some (ps.map EV.pv)
 |[],ps,_,h=>by injection h with h;subst h;rfl
 |x::l,ps,hn,h=>by
  rw[List.any_cons,Bool.or_eq_false_iff] at hn
  unfold uo at h
  split at h
  ·rename_i p qs hx hq
   injection h with h;subst h
   unfold IU
   rw[QA hn.1,hx,K0 env l hn.2 hq]
   rfl
  ·cases h
def hU(P:Program)(T:qU)(o:Oper)(h:Hint)(s:St):Option XR :=
 match o.op with
 |.store _ _ _=>match storeAt T o.op o.dst h (iq s.env) s.bp with
  |some (r,sc,ob)=>some ⟨.dead,none,some (r,sc),none,ob⟩
  |none=>none
 |.call c=>match c.callee with
  |.value (.func f)=>match h,uo s.env c.args.toList with
   |.pv r,some ps=>some ⟨.pv r,none,none,none,[kV P f ps r]⟩
   |.bI [] (some (y,d)) (.row y1 off len sz) [(y2,sc)],some ps=>bif Nat.beq y y1&&Nat.beq y y2&&pc sc&&D5 o.dst d && !(c.args.toList.any Qz)&&Nat.blt y 999999 then
     some ⟨.row d off len sz,some sc,none,none,[av P f (ps.map EV.pv) [] (.row y off len sz) [(y,sc)]]⟩ else none
   |_,_=>none
  |.builtin .append=>none
  |.builtin .copy=>none
  |_=>EO (iq s.env) o.op (fF T s.bp o.dst o.op (iq s.env) h)
 |_=>EO (iq s.env) o.op (fF T s.bp o.dst o.op (iq s.env) h)
def wz(s:St)(dst:Option Nat):Option SC→Bool
 |none=>true
 |some _=>match dst with
  |none=>false
  |some d=>(s.bp.get d).isNone&&Nat.blt d 999999
def JH(P:Program)(T:qU)(n:Nat)(ops:Array Oper)(o:Oper)(h:Hint)(s:St):Option XR :=
 bif ry n o.dst then
  match o.guard with
  |none=>match hU P T o h s with
   |some res=>bif wz s o.dst res.new then some res else none
   |none=>none
  |some (j,want)=>match (ops[j]?).bind (·.dst) with
   |some t=>match s.env.get t with
    |some (.pv (.bool b))=>match h with
     |.skip=>some ⟨.pv (.aB []),none,none,none,[b = !want]⟩
     |h=>match hU P T o h s with
      |some res=>bif wz s o.dst res.new then some ⟨res.val,res.new,res.wr,res.rd,(b=want)::res.ob⟩ else none
      |none=>none
    |some (.pv (.aB _))=>match h with
     |.skip=>some ⟨.pv (.aB []),none,none,none,[]⟩
     |_=>none
    |_=>none
   |none=>none
 else none
def Fv(bp:cq)(dst:Option Nat)(res:XR):cq :=
 match res.new,dst with
  |some sc,some d=>bif Nat.blt d 999999 then (d,sc)::bp else bp
  |_,_=>match res.wr with
   |some (r,sc)=>cq.set bp r sc
   |none=>bp
def hAdd(s:St)(dst:Option Nat)(res:XR):St:=⟨u6 s.env dst res.val,Fv s.bp dst res⟩
section
variable {P:Program} {T:qU} {Γ:Ctx} {s s':St} {a:Act} {w:World} {β:Nat→Option Nat} {I:Nat→Prop} {o:Oper} {h:Hint} {ob:List Prop} {res:XR} {ops:Array Oper}
theorem K3{r0:uC}{rd:Option Nat}(hf:wz s o.dst r0.new=true):DX s o.dst r0=some (hAdd s o.dst ⟨r0.val,r0.new,none,rd,r0.ob⟩,r0.ob):=by
 obtain⟨val,new,ob⟩:=r0
 unfold DX hAdd Fv
 cases new with
 |none=>rfl
 |some sc =>
  unfold wz at hf
  simp only
  cases hd:o.dst with
  |none=>rw[hd] at hf;cases hf
  |some d =>
   rw[hd] at hf
   simp only at hf ⊢
   rw[Bool.and_eq_true] at hf
   cases hg:s.bp.get d with
   |none=>simp only[hf.2,cond_true]
   |some _=>rw[hg] at hf;cases hf.1
theorem K4(hT:uj P T)(hs:∀r,ee Γ.sin r→Γ.n≤r)(hr:Rel Γ s a w)(bz:hU P T o h s=some res)(hf:wz s o.dst res.new=true)(hd:ry Γ.n o.dst=true)(fK:je res.ob)
  {K:Act→World→Prop} {Q:Exit→Act→World→Prop} (hk:∀a' w',Rel Γ (hAdd s o.dst res) a' w'→K a' w'):o.wp P a w K Q:=by
 have gen:EO (iq s.env) o.op (fF T s.bp o.dst o.op (iq s.env) h)=some res→o.wp P a w K Q:=by
  intro aH
  unfold EO at aH
  split at aH
  ·rename_i r0 W1
   injection aH with aH;subst aH
   obtain⟨β,I,hr⟩:=hr
   obtain⟨v,w',hex,Gi⟩:=EG hT hr.pre W1 fK
   have:=(KN hs hr hd Gi (K3 (rd:=JG (iq s.env) o.op) hf)).1
   unfold Oper.wp
   rw[hex]
   exact hk _ _ this
  ·cases aH
 unfold hU at bz
 split at bz
 ·rename_i t x y Bc
  split at bz
  ·rename_i r sc ob Yf
   injection bz with bz;subst bz
   obtain⟨h1,h2⟩:=JE Yf
   refine zy hT hr h1 fK (fun a' w' jn=>hk a' w' ?_)
   unfold hAdd Fv
   rw[h2]
   exact jn
  ·cases bz
 ·rename_i c Bc
  split at bz
  ·rename_i f zv
   split at bz
   ·rename_i r ps uR
    injection bz with bz;subst bz
    have hc:zV P Γ.n o (.pv r) s=some (⟨u6 s.env o.dst (.pv r),s.bp⟩,[kV P f ps r]):=by
     unfold zV
     rw[Bc]
     simp only[zv,uR,hd,cond_true]
    exact zW hr hc fK (fun a' w' h=>hk a' w' h)
   ·rename_i y d y1 off len sz y2 sc ps uR
    cases hb:(Nat.beq y y1&&Nat.beq y y2&&pc sc&&D5 o.dst d && !(c.args.toList.any Qz)&&Nat.blt y 999999) with
    |false=>rw[hb] at bz;cases bz
    |true =>
     simp only[hb,cond_true] at bz
     injection bz with bz;subst bz
     simp only[Bool.and_eq_true] at hb
     obtain⟨⟨⟨⟨⟨b1,b2⟩,b3⟩,b4⟩,b5⟩,b6⟩:=hb
     rw[Bool.not_eq_true'] at b5
     have e1:y=y1:=Nat.eq_of_beq_eq_true b1
     have e2:y=y2:=Nat.eq_of_beq_eq_true b2
     have e3:=D6 b4
     subst e1;subst e2
     have hfd:s.bp.get d=none:=by
      unfold wz at hf
      rw[e3] at hf
      simp only[Bool.and_eq_true] at hf
      simpa using hf.1
     have zG:Nat.blt d 999999=true:=by
      unfold wz at hf
      rw[e3] at hf
      simp only[Bool.and_eq_true] at hf
      exact hf.2
     have hyg:cq.get [(y,sc)] y=some sc:=by rw[cq.qH (Nat.le_of_ble_eq_true b6),Nat.beq_refl];rfl
     have Bn:Nat.blt d Γ.n=true:=by rw[e3] at hd;exact hd
     have hc:xF P Γ.n o (.bI [] (some (y,d)) (.row y off len sz) [(y,sc)]) s=some (⟨u6 s.env o.dst (.row d off len sz),(d,sc)::s.bp⟩,[av P f (ps.map EV.pv) [] (.row y off len sz) [(y,sc)]]):=by
      unfold xF
      rw[Bc]
      simp only[zv,WU,SJ,List.append_nil,K0 _ _ b5 uR,hd,sX,List.all_nil,List.all_cons,b3,b6,hyg,Nat.beq_refl,cond_true,hfd,q8,Bg,Bn,GK,sM,Option.map_some,D5,Option.isSome_none,Bool.false_or,Bool.and_true,Bool.false_and,givenBy,List.filter_nil,List.map_nil,kK]
     refine zC hs hr hc fK (fun a' w' h=>hk a' w' ?_)
     unfold hAdd Fv
     simp only[e3,zG,cond_true] at h ⊢
     exact h
   ·cases bz
  ·cases bz
  ·cases bz
  ·exact gen bz
 ·exact gen bz
theorem MK(hT:uj P T)(hs:∀r,ee Γ.sin r→Γ.n≤r)(hr:Rel Γ s a w)(bz:JH P T Γ.n ops o h s=some res)(fK:je res.ob)
  {K:Act→World→Prop} {Q:Exit→Act→World→Prop} (hk:∀a' w',Rel Γ (hAdd s o.dst res) a' w'→K a' w') :
  if Region.wanted o (yielded ops a.tmps) then o.wp P a w K Q∨(o.asks P a w∧LetsOut Q) else K (a.put o.dst undef) w:=by
 unfold JH at bz
 cases hd:ry Γ.n o.dst with
 |false=>simp[hd] at bz
 |true =>
  simp only[hd,cond_true] at bz
  split at bz
  ·rename_i hg
   have hw:Region.wanted o (yielded ops a.tmps)=true:=by simp[Region.wanted,hg]
   rw[if_pos hw]
   split at bz
   ·rename_i UR u7
    cases hf:wz s o.dst UR.new with
    |false=>simp[hf] at bz
    |true =>
     simp only[hf,cond_true] at bz
     injection bz with bz;subst bz
     exact .inl (K4 hT hs hr u7 hf hd fK hk)
   ·cases bz
  ·rename_i j want hg
   split at bz
   ·rename_i t ht
    split at bz
    ·rename_i b hb
     have hy:yielded ops a.tmps j=some b:=by
      obtain⟨β,I,jn⟩:=hr
      have hv:Rd I w (.bool b) (a.tmps.getD t undef):=jn.env t _ hb
      have Ku:a.tmps.getD t undef = .bool b:=by generalize a.tmps.getD t undef=v at hv;cases hv;rfl
      unfold yielded
      rw[ht]
      simp only[Option.bind_some]
      rw[Array.getD_eq_getD_getElem?] at Ku
      cases hx:a.tmps[t]? with
      |none=>rw[hx] at Ku;simp[undef] at Ku
      |some v=>rw[hx] at Ku;simp at Ku;subst Ku;rfl
     have hw:Region.wanted o (yielded ops a.tmps)=(b==want):=by
      simp only[Region.wanted,hg,hy]
      cases b<;>cases want<;>rfl
     split at bz
     ·injection bz with bz;subst bz
      have Y6:b = !want:=fK
      rw[if_neg (by rw[hw,Y6];cases want<;>simp)]
      obtain⟨β,I,jn⟩:=hr
      exact hk _ _ ⟨β,I,jn.put (kf hd) (CS _ _)⟩
     ·split at bz
      ·rename_i UR u7
       cases hf:wz s o.dst UR.new with
       |false=>simp[hf] at bz
       |true =>
        simp only[hf,cond_true] at bz
        injection bz with bz;subst bz
        obtain⟨g1,g2⟩:=fK.cons
        rw[if_pos (by rw[hw,g1];simp)]
        exact .inl (K4 hT hs hr u7 hf hd g2 hk)
      ·cases bz
    ·rename_i vs hb
     split at bz
     ·injection bz with bz;subst bz
      obtain⟨β,I,jn⟩:=hr
      rw[if_neg (by rw[GC ht (jn.env t _ hb) hg];simp)]
      exact hk _ _ ⟨β,I,jn.put (kf hd) (CS _ _)⟩
     ·cases bz
    ·cases bz
   ·cases bz
abbrev HR:=Nat×Oper×XR
def app(U:List Nat):List HR→St→St
 |[],s=>s
 |(i,o,res)::rs,s=>app U rs (if i∈U then s else hAdd s o.dst res)
def BF:List HR→Prop
 |[]=>True
 |(_,o,_)::rs=>(∀d,o.dst=some d→∀x∈rs,x.2.1.dst≠some d)∧BF rs
def oQ(x:HR):Option Nat :=
 match x.2.2.new,x.2.1.dst with
 |some _,some d=>some d
 |_,_=>x.2.2.wr.map (·.1)
theorem GL(s:St)(dst:Option Nat)(res:XR)(t:Nat):(hAdd s dst res).env.get t=if dst=some t then some res.val else s.env.get t:=by
 cases dst with
 |none=>simp[hAdd,u6]
 |some d =>
  simp only[hAdd,u6,Env.get]
  cases hb:Nat.beq d t with
  |true=>have:d=t:=Nat.eq_of_beq_eq_true hb;subst this;simp
  |false =>
   have:d≠t:=by intro e;subst e;simp at hb
   simp[this]
theorem BG(bp:cq)(x:HR)(r:Nat)(h:oQ x≠some r):(Fv bp x.2.1.dst x.2.2).get r=bp.get r:=by
 unfold oQ at h
 unfold Fv
 split
 ·rename_i sc d hn hd
  simp only[hn,hd] at h
  cases zG:Nat.blt d 999999 with
  |false=>rfl
  |true =>
   simp only[cond_true]
   rw[cq.qH (Nat.le_of_ble_eq_true zG),mP (fun e=>h (by rw[e]))]
   rfl
 ·rename_i dk
  split at h
  ·rename_i sc d hn hd
   exact absurd hd (dk _ _ hn)
  ·split
   ·rename_i r' sc hw
    rw[hw] at h
    simp only[Option.map_some,ne_eq,Option.some.injEq] at h
    rw[cq.rL,if_neg (fun e=>h e.1.symm)]
   ·rfl
theorem IX(bp D0:cq)(x:HR)(r:Nat)(h:D0.get r=bp.get r):(Fv D0 x.2.1.dst x.2.2).get r=(Fv bp x.2.1.dst x.2.2).get r:=by
 unfold Fv
 split
 ·rename_i sc d _ _
  cases zG:Nat.blt d 999999 with
  |false=>exact h
  |true =>
   simp only[cond_true]
   rw[cq.qH (Nat.le_of_ble_eq_true zG),cq.qH (Nat.le_of_ble_eq_true zG),h]
 ·split
  ·rw[cq.rL,cq.rL,h]
  ·exact h
theorem pW(U:List Nat)(t:Nat):∀(rs:List HR) (s:St),(∀x∈rs,x.2.1.dst=some t→x.1∈U)→(app U rs s).env.get t=s.env.get t
 |[],s,_=>rfl
 |(i,o,res)::rs,s,h=>by
  simp only[app]
  rw[pW U t rs _ (fun x hx=>h x (by simp[hx]))]
  by_cases hi:i∈U
  ·rw[if_pos hi]
  ·rw[if_neg hi,GL,if_neg (fun e=>hi (h (i,o,res) (by simp) e))]
theorem rO(U:List Nat)(t:Nat)(x:HR)(ht:x.2.1.dst=some t)(hu:x.1 ∉ U)(rs:List HR):∀(s:St),BF rs→x∈rs→(app U rs s).env.get t=some x.2.2.val:=by
 induction rs with
 |nil=>intro s _ hx;cases hx
 |cons y rs ih =>
  intro s hd hx
  obtain⟨i,o,res⟩:=y
  show(app U rs (if i∈U then s else hAdd s o.dst res)).env.get t=_
  rcases List.mem_cons.1 hx with hx|hx
  ·subst hx
   rw[pW U t rs _ (fun y hy e=>absurd e (hd.1 t ht y hy)),if_neg hu,GL,if_pos ht]
  ·exact ih _ hd.2 hx
theorem wA(U U':List Nat)(r:Nat):∀(rs:List HR) (s s':St),(∀y∈rs,oQ y=some r→(y.1∈U↔y.1∈U'))→s'.bp.get r=s.bp.get r→(app U' rs s').bp.get r=(app U rs s).bp.get r
 |[],s,s',_,h=>h
 |(i,o,res)::rs,s,s',hU,h=>by
  simp only[app]
  refine wA U U' r rs _ _ (fun y hy=>hU y (by simp[hy])) ?_
  by_cases hw:oQ (i,o,res)=some r
  ·have hi:=hU (i,o,res) (by simp) hw
   by_cases h1:i∈U
   ·rw[if_pos h1,if_pos (hi.1 h1)];exact h
   ·rw[if_neg h1,if_neg (fun h2=>h1 (hi.2 h2))]
    exact IX s.bp s'.bp (i,o,res) r h
  ·have h1:∀(b:Prop) [Decidable b] (s:St),(if b then s else hAdd s o.dst res).bp.get r=s.bp.get r:=fun b _ s=>by
    split
    ·rfl
    ·exact BG s.bp (i,o,res) r hw
   rw[h1,h1];exact h
theorem yv(U:List Nat)(r:Nat):∀(rs:List HR) (s:St),(∀y∈rs,oQ y=some r→y.1∈U)→(app U rs s).bp.get r=s.bp.get r
 |[],s,_=>rfl
 |(i,o,res)::rs,s,h=>by
  simp only[app]
  rw[yv U r rs _ (fun y hy=>h y (by simp[hy]))]
  by_cases hi:i∈U
  ·rw[if_pos hi]
  ·rw[if_neg hi]
   exact BG s.bp (i,o,res) r (fun e=>hi (h (i,o,res) (by simp) e))
theorem BH(U:List Nat):∀(pre post:List HR) (s:St),app U (pre++post) s=app U post (app U pre s)
 |[],_,_=>rfl
 |(i,o,res)::pre,post,s=>by
  simp only[List.cons_append,app]
  exact BH U pre post _
theorem GM{U:List Nat}{pre post:List HR}{x:HR}{r:Nat}(s:St)(h1:∀y∈pre,oQ y=some r→y.1 ∉ U)(h2:∀y∈post,oQ y=some r→y.1∈U)(hx:x.1∈U) :
  (app U (pre++x::post) s).bp.get r=(app [] pre s).bp.get r:=by
 rw[BH]
 obtain⟨i,o,res⟩:=x
 show(app U post (if i∈U then app U pre s else hAdd (app U pre s) o.dst res)).bp.get r=_
 rw[if_pos hx,yv U r post _ h2]
 exact wA [] U r pre s s (fun y hy hw=>⟨fun h=>(by cases h),fun h=>absurd h (h1 y hy hw)⟩) rfl
theorem Pd{U U':List Nat}{rs pre post:List HR}{x:HR}(Pe:rs=pre++x::post)(hd:BF rs)(hU:∀j,j∈U'↔j∈U∧j≠x.1)(IY:∀y∈rs,y.1=x.1→y=x)(hnp:x ∉ pre)(US:x.1∈U)
  (FM:∀r,oQ x=some r→∀y∈pre,oQ y=some r→y.1 ∉ U) (Cx:∀r,oQ x=some r→∀y∈post,oQ y=some r→y.1∈U) (Zc:x ∉ post) (s:St) :
  SB (hAdd (app U rs s) x.2.1.dst x.2.2) (app U' rs s):=by
 have hx:x∈rs:=by rw[Pe];simp
 have CR:x.1 ∉ U':=fun h=>((hU _).1 h).2 rfl
 refine⟨fun t => ?_,fun r => ?_⟩
 ·rw[GL]
  by_cases ht:x.2.1.dst=some t
  ·rw[if_pos ht,rO U' t x ht CR rs s hd hx]
  ·rw[if_neg ht]
   by_cases hy:∃y∈rs,y.2.1.dst=some t∧y.1 ∉ U
   ·obtain⟨y,hy,Wm,Yg⟩:=hy
    rw[rO U t y Wm Yg rs s hd hy,rO U' t y Wm (fun h=>Yg ((hU _).1 h).1) rs s hd hy]
   ·have h1:∀y∈rs,y.2.1.dst=some t→y.1∈U:=fun y IV PS=>Classical.byContradiction fun hc=>hy ⟨y,IV,PS,hc⟩
    rw[pW U t rs s h1,pW U' t rs s (fun y IV PS=>(hU _).2 ⟨h1 y IV PS,fun e=>ht (by rw[←IY y IV e];exact PS)⟩)]
 ·by_cases hw:oQ x=some r
  ·have e1:(app U' rs s).bp.get r=(Fv (app U' pre s).bp x.2.1.dst x.2.2).get r:=by
    rw[Pe,BH]
    obtain⟨i,o,res⟩:=x
    show(app U' post (if i∈U' then app U' pre s else hAdd (app U' pre s) o.dst res)).bp.get r=_
    rw[if_neg CR,yv U' r post _ (fun y hy W2=>(hU _).2 ⟨Cx r hw y hy W2,fun e=>Zc (by rw[←IY y (by rw[Pe];simp[hy]) e];exact hy)⟩)]
    rfl
   rw[e1]
   show _=(Fv (app U rs s).bp x.2.1.dst x.2.2).get r
   refine IX _ _ x r ?_
   rw[Pe,GM s (FM r hw) (Cx r hw) US]
   exact wA [] U' r pre s s (fun y hy W2=>⟨fun h=>(by cases h),fun h=>absurd ((hU _).1 h).1 (FM r hw y hy W2)⟩) rfl
  ·show _=(Fv (app U rs s).bp x.2.1.dst x.2.2).get r
   rw[BG _ x r hw]
   refine wA U U' r rs s s (fun y hy W2=>⟨fun h=>(hU _).2 ⟨h,fun e=>hw (by rw[←IY y hy e];exact W2)⟩,fun h=>((hU _).1 h).1⟩) rfl
def Iq(P:Program)(T:qU)(n:Nat)(ops:Array Oper):List HR→List Hint→St→Prop
 |[],_,_=>True
 |(i,o,res)::rs,hs,s=>ops[i]? = some o∧JH P T n ops o (hs.headD .none) s=some res∧Iq P T n ops rs hs.tail (hAdd s o.dst res)
theorem K5{env Qy:Env}(x:Operand)(h:∀t,x = .tmp t→Qy.get t=env.get t):iq Qy x=iq env x:=by
 cases x with
 |tmp t=>exact h t rfl
 |const v=>rfl
 |func f=>rfl
 |global g=>rfl
theorem ML{ρ ρ':Operand→Option EV}{op:Op}(hx:∀x∈op.operands,ρ' x=ρ x):JG ρ' op=JG ρ op:=by
 cases op<;>try rfl
 case load t x=>simp only[JG];rw[hx x (by simp[Op.operands])]
def Ec(ρ:Operand→Option EV):Op→Option Nat
 |.load _ x=>match ρ x with
  |some (.ptr r _)=>some r
  |_=>none
 |.store _ x _=>match ρ x with
  |some (.ptr r _)=>some r
  |_=>none
 |_=>none
theorem QB{s s':St}(he:∀t,Operand.tmp t∈o.op.operands→s'.env.get t=s.env.get t)
  (hs:∀r,Ec (iq s.env) o.op=some r→s'.bp.get r=s.bp.get r):hU P T o h s'=hU P T o h s:=by
 have mD:∀x∈o.op.operands,iq s'.env x=iq s.env x:=fun x hx=>K5 x (fun t ht=>he t (ht ▸ hx))
 have Bc:fF T s'.bp o.dst o.op (iq s'.env) h=fF T s.bp o.dst o.op (iq s.env) h:=KZ mD (fun t x r off ho hx=>hs r (by rw[ho];simp[Ec,hx]))
 have A9:JG (iq s'.env) o.op=JG (iq s.env) o.op:=ML mD
 have TW:EO (iq s'.env) o.op (fF T s'.bp o.dst o.op (iq s'.env) h)=EO (iq s.env) o.op (fF T s.bp o.dst o.op (iq s.env) h):=by
  rw[Bc];unfold EO;rw[A9]
 unfold hU
 split
 ·rename_i t x y ho
  rw[Ip mD (fun t x y r off ho hx=>hs r (by rw[ho];simp[Ec,hx]))]
 ·rename_i c hc
  rw[hc] at mD
  have Zd:uo s'.env c.args.toList=uo s.env c.args.toList:=CU (fun x hx=>mD x (by simp[Op.operands,Call.operands];exact .inr (by simpa using hx)))
  split
  ·rw[Zd]
  ·rfl
  ·rfl
  ·exact TW
 ·exact TW
theorem SP(bz:hU P T o h s=some res){r:Nat}(hr:Ec (iq s.env) o.op=some r):res.rd=some r∨(res.new=none∧res.wr.map (·.1)=some r):=by
 unfold hU at bz
 split at bz
 ·rename_i t x y Bc
  right
  split at bz
  ·rename_i r' sc ob Yf
   injection bz with bz;subst bz
   refine⟨rfl,?_⟩
   rw[Bc] at hr Yf
   unfold Ec at hr
   simp only at hr
   split at hr
   ·rename_i q off hq
    injection hr with hr;subst hr
    rw[JF Yf hq];rfl
   ·cases hr
  ·cases bz
 ·rename_i c Bc
  rw[Bc] at hr
  cases hr
 ·left
  unfold EO at bz
  split at bz
  ·injection bz with bz;subst bz
   show JG (iq s.env) o.op=some r
   rename_i KO hnc _ _ _
   cases ho:o.op<;>rw[ho] at hr<;>first|(cases hr;done)|skip
   ·simpa[Ec,JG] using hr
   ·rename_i t x y;exact absurd ho (KO t x y)
  ·cases bz
end
end Go.Proofs.YtllmkadmohkbfaaGreatDoor.Sym
