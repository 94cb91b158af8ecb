/- Lemmas for the statements of this seat. -/
import Derived.Test.YtnjhplhbmapclaaGreatDoorWSymO
namespace Go.Proofs.YtnjhplhbmapclaaGreatDoor.Sym
open Go Go.RowKit
theorem kZ{ρ ρ':Operand→Option EV} : ∀{l:List (Nat×Operand)},(∀x∈l.map (·.2),ρ' x=ρ x)→kx ρ' l=kx ρ l
 |[],_=>rfl
 |(i,x)::r,h=>by
  unfold kx
  rw[h x (by simp),kZ (l:=r) (fun y hy=>h y (by simp at hy ⊢;exact .inr hy))]
theorem oh{ρ ρ':Operand→Option EV} : ∀{l:List (Nat×Operand)},(∀x∈l.map (·.2),ρ' x=ρ x)→lM ρ' l=lM ρ l
 |[],_=>rfl
 |(i,x)::r,h=>by
  unfold lM
  rw[h x (by simp),oh (l:=r) (fun y hy=>h y (by simp at hy ⊢;exact .inr hy))]
theorem xM{T:gi}{aw qB:aD}{dst:Option Nat}{op:Op}{ρ ρ':Operand→Option EV}{h:Hint}(hx:∀x∈op.operands,ρ' x=ρ x)
  (hs:∀t x r off,op = .load t x→ρ x=some (.ptr r off)→qB.get r=aw.get r):bk T qB dst op ρ' h=bk T aw dst op ρ h:=by
 cases op<;>simp only[Op.operands] at hx<;>simp only[bk]
 case move x=>rw[hx x (by simp)]
 case assign x=>rw[hx x (by simp)]
 case pick c a b =>
  have h1:=hx c (by simp)
  have h2:=hx a (by simp)
  have h3:=hx b (by simp)
  have h4:∀d:Bool,ρ' (bif d then a else b)=ρ (bif d then a else b):=fun d=>by cases d<;>simp[h2,h3]
  rw[h1]
  simp only[h4]
 case box t x=>rw[hx x (by simp)]
 case build t ps=>rw[kZ (fun x uP=>hx x (by simpa using uP)),oh (fun x uP=>hx x (by simpa using uP))]
 case buildSlice t n ps=>rw[kZ (fun x uP=>hx x (by simpa using uP))]
 case load t x =>
  have h1:=hx x (by simp)
  rw[h1]
  cases T.get t with
  |none=>rfl
  |some d =>
   cases hr:ρ x with
   |none=>rfl
   |some e =>
    cases e with
    |ptr r off=>simp only[hs t x r off rfl hr]
    |_=>rfl
 case nilCheck x=>rw[hx x (by simp)]
 case binOp op t x y yt=>rw[hx x (by simp),hx y (by simp)]
 case unOp op t x=>rw[hx x (by simp)]
 case convert s t x=>rw[hx x (by simp)]
 case makeInterface t x=>rw[hx x (by simp)]
 case makeFunc fn f1 cap =>
  have h1:∀x∈cap.toList,ρ' x=ρ x:=fun x uP=>hx x (by simp only[Array.mem_append];exact .inr (by simpa using uP))
  generalize cap.toList=l at h1 ⊢
  generalize f1.toList=l1
  cases fn<;>cases l1<;>try rfl
  rcases l with _|⟨x,_|⟨y,l⟩⟩
  ·rfl
  ·simp only[h1 x (by simp)]
  ·rfl
 case makeSlice t x y=>rw[hx x (by simp),hx y (by simp)]
 case slice t x lo hi mx =>
  have h1:=hx x (by simp)
  have h2:∀d:EV,Cw ρ' lo d=Cw ρ lo d:=fun d=>by
   cases lo with
   |none=>rfl
   |some y=>exact hx y (by simp)
  have h3:∀d:EV,Cw ρ' hi d=Cw ρ hi d:=fun d=>by
   cases hi with
   |none=>rfl
   |some y=>exact hx y (by simp)
  simp only[h1,h2,h3]
 case fieldAddr t x f=>rw[hx x (by simp)]
 case field t x f=>rw[hx x (by simp)]
 case indexAddr t x y=>rw[hx x (by simp),hx y (by simp)]
 case index t x i=>rw[hx x (by simp),hx i (by simp)]
 case extract x i=>rw[hx x (by simp)]
 case typeAssert x xt t ok=>cases ok<;>simp only[hx x (by simp)]
 case call c =>
  obtain⟨cl,args,CD⟩:=c
  simp only
  split
  ·rename_i x t fM _
   rw[hx x (by simp[Call.operands,EK fM])]
  ·rename_i x y fM
   rw[hx x (by simp[Call.operands,r5 fM]),hx y (by simp[Call.operands,r5 fM])]
  ·rename_i x y fM
   rw[hx x (by simp[Call.operands,r5 fM]),hx y (by simp[Call.operands,r5 fM])]
  ·rfl
theorem pC{env CZ:Env} : ∀{l:List Operand},(∀x∈l,bL CZ x=bL env x)→jn CZ l=jn env l
 |[],_=>rfl
 |x::r,h=>by
  unfold jn
  rw[h x (by simp),pC (l:=r) (fun y hy=>h y (by simp[hy]))]
structure XR where
 val:EV
 new:Option SC
 wr:Option (Nat×SC)
 rd:Option Nat
 ob:List Prop
def storeAt(T:gi)(op:Op)(dst:Option Nat)(h:Hint)(ρ:Operand→Option EV)(aw:aD):Option (Nat×SC×List Prop) :=
 match op,dst with
 |.store t x y,none=>match T.get t,ρ x,ρ y with
  |some d,some (.ptr r off),some e=>match iM e,aw.get r with
   |some cs,some sc=>bif Nat.beq cs.length d.size&&Nat.blt r 999999 then
     match h with
     |.cells sc'=>some (r,sc',[off+cs.length≤sc.mw.length,cR sc.mw off cs=sc'.mw])
     |_=>match sc with
      |.lit cells=>bif Nat.ble (off+cs.length) cells.length then some (r,.lit (cR cells off cs),[]) else none
      |_=>none
    else none
   |_,_=>none
  |_,_,_=>none
 |_,_=>none
theorem wc{T:gi}{o:Oper}{h:Hint}{s:St}{r:Nat}{sc:SC}{ob:List Prop}(ay:storeAt T o.op o.dst h (bL s.env) s.aw=some (r,sc,ob)) :
  lh T o h s=some (⟨s.env,aD.set s.aw r sc⟩,ob)∧o.dst=none:=by
 unfold storeAt at ay
 split at ay
 ·rename_i t x y nZ xC
  refine⟨?_,xC⟩
  unfold lh
  rw[nZ,xC]
  simp only
  split at ay
  ·rename_i d r' off e hd hx hy
   simp only[hd,hx,hy]
   split at ay
   ·rename_i cs Az rX jP
    simp only[rX,jP]
    cases hl:(Nat.beq cs.length d.size&&Nat.blt r' 999999) with
    |false=>simp[hl] at ay
    |true =>
     simp only[hl,cond_true] at ay ⊢
     split at ay
     ·injection ay with ay;injection ay with h1 h2;injection h2 with h2 h3
      subst h1;subst h2;subst h3
      rfl
     ·rename_i fP
      split at ay
      ·rename_i cells
       cases hle:Nat.ble (off+cs.length) cells.length with
       |false=>simp[hle] at ay
       |true =>
        simp only[hle,cond_true] at ay
        injection ay with ay;injection ay with h1 h2;injection h2 with h2 h3
        subst h1;subst h2;subst h3
        cases h<;>first|(simp only[hle,cond_true];done)|exact absurd rfl (fP _)
      ·cases ay
   ·cases ay
  ·cases ay
 ·cases ay
theorem uT{T:gi}{op:Op}{dst:Option Nat}{h:Hint}{ρ ρ':Operand→Option EV}{aw qB:aD}(hx:∀x∈op.operands,ρ' x=ρ x)
  (hs:∀t x y r off,op = .store t x y→ρ x=some (.ptr r off)→qB.get r=aw.get r):storeAt T op dst h ρ' qB=storeAt T op dst h ρ aw:=by
 unfold storeAt
 split
 ·rename_i t x y
  simp only[Op.operands] at hx
  rw[hx x (by simp),hx y (by simp)]
  split
  ·rename_i d r off e hd hr hy
   rw[hs t x y r off rfl hr]
  ·rfl
 ·rfl
theorem we{T:gi}{t:TypeId}{x y:Operand}{dst:Option Nat}{h:Hint}{ρ:Operand→Option EV}{aw:aD}{r r' off:Nat}{sc:SC}{ob:List Prop}
  (ay:storeAt T (.store t x y) dst h ρ aw=some (r',sc,ob)) (hx:ρ x=some (.ptr r off)):r'=r:=by
 unfold storeAt at ay
 cases dst with
 |some d=>cases ay
 |none =>
  simp only[hx] at ay
  cases hd:T.get t with
  |none=>simp[hd] at ay
  |some d =>
   simp only[hd] at ay
   cases hy:ρ y with
   |none=>simp[hy] at ay
   |some e =>
    simp only[hy] at ay
    split at ay
    ·rename_i cs Az rX jP
     cases hl:(Nat.beq cs.length d.size&&Nat.blt r 999999) with
     |false=>simp[hl] at ay
     |true =>
      simp only[hl,cond_true] at ay
      split at ay
      ·injection ay with ay;injection ay with h1 h2;exact h1.symm
      ·split at ay
       ·rename_i cells
        cases hle:Nat.ble (off+cs.length) cells.length with
        |false=>simp[hle] at ay
        |true =>
         simp only[hle,cond_true] at ay
         injection ay with ay;injection ay with h1 h2;exact h1.symm
       ·cases ay
    ·cases ay
def wg(ρ:Operand→Option EV):Op→Option Nat
 |.load _ x=>match ρ x with
  |some (.ptr r _)=>some r
  |_=>none
 |_=>none
def ru(ρ:Operand→Option EV)(op:Op):Option jv→Option XR
 |some res=>some ⟨res.val,res.new,none,wg ρ op,res.ob⟩
 |none=>none
theorem tA(sout:aD):∀aw:aD,gW [] sout aw=aw
 |[]=>rfl
 |(x,sc)::aw=>by simp only[gW,assoc,tA sout aw,Bool.cond_self]
def C0:Operand→Bool
 |.const (.slice none 0 0)=>true
 |_=>false
theorem C1{env:Env}{x:Operand}(h:C0 x=false):xI true env x=bL env x:=by
 unfold xI
 split
 ·rw[C0] at h;cases h
 ·rfl
theorem xN(env:Env):∀(l:List Operand) {ps:List PV},l.any C0=false→jn env l=some ps→vg true env (assoc []) l=some (ps.map EV.pv)
 |[],ps,_,h=>by injection h with h;subst h;rfl
 |x::l,ps,hn,h=>by
  rw[List.any_cons,Bool.or_eq_false_iff] at hn
  unfold jn at h
  split at h
  ·rename_i p qs hx hq
   injection h with h;subst h
   unfold vg
   rw[C1 hn.1,hx,xN env l hn.2 hq]
   rfl
  ·cases h
def hU(P:Program)(T:gi)(o:Oper)(h:Hint)(s:St):Option XR :=
 match o.op with
 |.store _ _ _=>match storeAt T o.op o.dst h (bL s.env) s.aw with
  |some (r,sc,ob)=>some ⟨.dead,none,some (r,sc),none,ob⟩
  |none=>none
 |.call c=>match c.callee with
  |.value (.func f)=>match h,jn s.env c.args.toList with
   |.pv r,some ps=>some ⟨.pv r,none,none,none,[cb P f ps r]⟩
   |.bz [] (some (y,d)) (.row y1 off len sz) [(y2,sc)],some ps=>bif Nat.beq y y1&&Nat.beq y y2&&e9 sc&&qF o.dst d && !(c.args.toList.any C0)&&Nat.blt y 999999 then
     some ⟨.row d off len sz,some sc,none,none,[aq P f (ps.map EV.pv) [] (.row y off len sz) [(y,sc)]]⟩ else none
   |_,_=>none
  |.builtin .append=>none
  |.builtin .copy=>none
  |_=>ru (bL s.env) o.op (bk T s.aw o.dst o.op (bL s.env) h)
 |_=>ru (bL s.env) o.op (bk T s.aw o.dst o.op (bL s.env) h)
def kC(s:St)(dst:Option Nat):Option SC→Bool
 |none=>true
 |some _=>match dst with
  |none=>false
  |some d=>(s.aw.get d).isNone&&Nat.blt d 999999
def wh(P:Program)(T:gi)(n:Nat)(ops:Array Oper)(o:Oper)(h:Hint)(s:St):Option XR :=
 bif gG n o.dst then
  match o.guard with
  |none=>match hU P T o h s with
   |some res=>bif kC s o.dst res.new then some res else none
   |none=>none
  |some (j,want)=>match (ops[j]?).bind (·.dst) with
   |some t=>match s.env.get t with
    |some (.pv (.bool b))=>match h with
     |.skip=>some ⟨.pv (.aY []),none,none,none,[b = !want]⟩
     |h=>match hU P T o h s with
      |some res=>bif kC s o.dst res.new then some ⟨res.val,res.new,res.wr,res.rd,(b=want)::res.ob⟩ else none
      |none=>none
    |some (.pv (.aY _))=>match h with
     |.skip=>some ⟨.pv (.aY []),none,none,none,[]⟩
     |_=>none
    |_=>none
   |none=>none
 else none
def r8(aw:aD)(dst:Option Nat)(res:XR):aD :=
 match res.new,dst with
  |some sc,some d=>bif Nat.blt d 999999 then (d,sc)::aw else aw
  |_,_=>match res.wr with
   |some (r,sc)=>aD.set aw r sc
   |none=>aw
def hAdd(s:St)(dst:Option Nat)(res:XR):St:=⟨jU s.env dst res.val,r8 s.aw dst res⟩
section
variable {P:Program} {T:gi} {Γ:Ctx} {s s':St} {a:Act} {w:World} {β:Nat→Option Nat} {I:Nat→Prop} {o:Oper} {h:Hint} {ob:List Prop} {res:XR} {ops:Array Oper}
theorem xO{r0:jv}{rd:Option Nat}(hf:kC s o.dst r0.new=true):qz s o.dst r0=some (hAdd s o.dst ⟨r0.val,r0.new,none,rd,r0.ob⟩,r0.ob):=by
 obtain⟨val,new,ob⟩:=r0
 unfold qz hAdd r8
 cases new with
 |none=>rfl
 |some sc =>
  unfold kC at hf
  simp only
  cases hd:o.dst with
  |none=>rw[hd] at hf;cases hf
  |some d =>
   rw[hd] at hf
   simp only at hf ⊢
   rw[Bool.and_eq_true] at hf
   cases hg:s.aw.get d with
   |none=>simp only[hf.2,cond_true]
   |some _=>rw[hg] at hf;cases hf.1
theorem xP(hT:jh P T)(hs:∀r,aT Γ.sin r→Γ.n≤r)(hr:Rel Γ s a w)(ay:hU P T o h s=some res)(hf:kC s o.dst res.new=true)(hd:gG Γ.n o.dst=true)(bj:bV res.ob)
  {K:Act→World→Prop} {Q:Exit→Act→World→Prop} (hk:∀a' w',Rel Γ (hAdd s o.dst res) a' w'→K a' w'):o.wp P a w K Q:=by
 have gen:ru (bL s.env) o.op (bk T s.aw o.dst o.op (bL s.env) h)=some res→o.wp P a w K Q:=by
  intro ai
  unfold ru at ai
  split at ai
  ·rename_i r0 I3
   injection ai with ai;subst ai
   obtain⟨β,I,hr⟩:=hr
   obtain⟨v,w',hex,sX⟩:=rj hT hr.pre I3 bj
   have:=(xy hs hr hd sX (xO (rd:=wg (bL s.env) o.op) hf)).1
   unfold Oper.wp
   rw[hex]
   exact hk _ _ this
  ·cases ai
 unfold hU at ay
 split at ay
 ·rename_i t x y nZ
  split at ay
  ·rename_i r sc ob J8
   injection ay with ay;subst ay
   obtain⟨h1,h2⟩:=wc J8
   refine mA hT hr h1 bj (fun a' w' bU=>hk a' w' ?_)
   unfold hAdd r8
   rw[h2]
   exact bU
  ·cases ay
 ·rename_i c nZ
  split at ay
  ·rename_i f lF
   split at ay
   ·rename_i r ps jG
    injection ay with ay;subst ay
    have hc:mT P Γ.n o (.pv r) s=some (⟨jU s.env o.dst (.pv r),s.aw⟩,[cb P f ps r]):=by
     unfold mT
     rw[nZ]
     simp only[lF,jG,hd,cond_true]
    exact mU hr hc bj (fun a' w' h=>hk a' w' h)
   ·rename_i y d y1 off len sz y2 sc ps jG
    cases hb:(Nat.beq y y1&&Nat.beq y y2&&e9 sc&&qF o.dst d && !(c.args.toList.any C0)&&Nat.blt y 999999) with
    |false=>rw[hb] at ay;cases ay
    |true =>
     simp only[hb,cond_true] at ay
     injection ay with ay;subst ay
     simp only[Bool.and_eq_true] at hb
     obtain⟨⟨⟨⟨⟨b1,b2⟩,b3⟩,b4⟩,b5⟩,b6⟩:=hb
     rw[Bool.not_eq_true'] at b5
     have e1:y=y1:=Nat.eq_of_beq_eq_true b1
     have e2:y=y2:=Nat.eq_of_beq_eq_true b2
     have e3:=qG b4
     subst e1;subst e2
     have N2:s.aw.get d=none:=by
      unfold kC at hf
      rw[e3] at hf
      simp only[Bool.and_eq_true] at hf
      simpa using hf.1
     have mz:Nat.blt d 999999=true:=by
      unfold kC at hf
      rw[e3] at hf
      simp only[Bool.and_eq_true] at hf
      exact hf.2
     have N3:aD.get [(y,sc)] y=some sc:=by rw[aD.fY (Nat.le_of_ble_eq_true b6),Nat.beq_refl];rfl
     have oc:Nat.blt d Γ.n=true:=by rw[e3] at hd;exact hd
     have hc:lk P Γ.n o (.bz [] (some (y,d)) (.row y off len sz) [(y,sc)]) s=some (⟨jU s.env o.dst (.row d off len sz),(d,sc)::s.aw⟩,[aq P f (ps.map EV.pv) [] (.row y off len sz) [(y,sc)]]):=by
      unfold lk
      rw[nZ]
      simp only[lF,IU,EZ,List.append_nil,xN _ _ b5 jG,hd,iy,List.all_nil,List.all_cons,b3,b6,N3,Nat.beq_refl,cond_true,N2,gr,n7,oc,tA,gV,Option.map_some,qF,Option.isSome_none,Bool.false_or,Bool.and_true,Bool.false_and,givenBy,List.filter_nil,List.map_nil,cT]
     refine mB hs hr hc bj (fun a' w' h=>hk a' w' ?_)
     unfold hAdd r8
     simp only[e3,mz,cond_true] at h ⊢
     exact h
   ·cases ay
  ·cases ay
  ·cases ay
  ·exact gen ay
 ·exact gen ay
theorem zm(hT:jh P T)(hs:∀r,aT Γ.sin r→Γ.n≤r)(hr:Rel Γ s a w)(ay:wh P T Γ.n ops o h s=some res)(bj:bV res.ob)
  {K:Act→World→Prop} {Q:Exit→Act→World→Prop} (hk:∀a' w',Rel Γ (hAdd s o.dst res) a' w'→K a' w') :
  if Region.wanted o (yielded ops a.tmps) then o.wp P a w K Q∨(o.asks P a w∧LetsOut Q) else K (a.put o.dst undef) w:=by
 unfold wh at ay
 cases hd:gG Γ.n o.dst with
 |false=>simp[hd] at ay
 |true =>
  simp only[hd,cond_true] at ay
  split at ay
  ·rename_i hg
   have hw:Region.wanted o (yielded ops a.tmps)=true:=by simp[Region.wanted,hg]
   rw[if_pos hw]
   split at ay
   ·rename_i G5 jV
    cases hf:kC s o.dst G5.new with
    |false=>simp[hf] at ay
    |true =>
     simp only[hf,cond_true] at ay
     injection ay with ay;subst ay
     exact .inl (xP hT hs hr jV hf hd bj hk)
   ·cases ay
  ·rename_i j want hg
   split at ay
   ·rename_i t ht
    split at ay
    ·rename_i b hb
     have hy:yielded ops a.tmps j=some b:=by
      obtain⟨β,I,bU⟩:=hr
      have hv:Rd I w (.bool b) (a.tmps.getD t undef):=bU.env t _ hb
      have xd:a.tmps.getD t undef = .bool b:=by generalize a.tmps.getD t undef=v at hv;cases hv;rfl
      unfold yielded
      rw[ht]
      simp only[Option.bind_some]
      rw[Array.getD_eq_getD_getElem?] at xd
      cases hx:a.tmps[t]? with
      |none=>rw[hx] at xd;simp[undef] at xd
      |some v=>rw[hx] at xd;simp at xd;subst xd;rfl
     have hw:Region.wanted o (yielded ops a.tmps)=(b==want):=by
      simp only[Region.wanted,hg,hy]
      cases b<;>cases want<;>rfl
     split at ay
     ·injection ay with ay;subst ay
      have KU:b = !want:=bj
      rw[if_neg (by rw[hw,KU];cases want<;>simp)]
      obtain⟨β,I,bU⟩:=hr
      exact hk _ _ ⟨β,I,bU.put (cD hd) (pA _ _)⟩
     ·split at ay
      ·rename_i G5 jV
       cases hf:kC s o.dst G5.new with
       |false=>simp[hf] at ay
       |true =>
        simp only[hf,cond_true] at ay
        injection ay with ay;subst ay
        obtain⟨g1,g2⟩:=bj.cons
        rw[if_pos (by rw[hw,g1];simp)]
        exact .inl (xP hT hs hr jV hf hd g2 hk)
      ·cases ay
    ·rename_i vs hb
     split at ay
     ·injection ay with ay;subst ay
      obtain⟨β,I,bU⟩:=hr
      rw[if_neg (by rw[tp ht (bU.env t _ hb) hg];simp)]
      exact hk _ _ ⟨β,I,bU.put (cD hd) (pA _ _)⟩
     ·cases ay
    ·cases ay
   ·cases ay
abbrev HR:=Nat×Oper×XR
def app(U:List Nat):List HR→St→St
 |[],s=>s
 |(i,o,res)::rs,s=>app U rs (if i∈U then s else hAdd s o.dst res)
def oA:List HR→Prop
 |[]=>True
 |(_,o,_)::rs=>(∀d,o.dst=some d→∀x∈rs,x.2.1.dst≠some d)∧oA rs
def eT(x:HR):Option Nat :=
 match x.2.2.new,x.2.1.dst with
 |some _,some d=>some d
 |_,_=>x.2.2.wr.map (·.1)
theorem tB(s:St)(dst:Option Nat)(res:XR)(t:Nat):(hAdd s dst res).env.get t=if dst=some t then some res.val else s.env.get t:=by
 cases dst with
 |none=>simp[hAdd,jU]
 |some d =>
  simp only[hAdd,jU,Env.get]
  cases hb:Nat.beq d t with
  |true=>have:d=t:=Nat.eq_of_beq_eq_true hb;subst this;simp
  |false =>
   have:d≠t:=by intro e;subst e;simp at hb
   simp[this]
theorem oC(aw:aD)(x:HR)(r:Nat)(h:eT x≠some r):(r8 aw x.2.1.dst x.2.2).get r=aw.get r:=by
 unfold eT at h
 unfold r8
 split
 ·rename_i sc d hn hd
  simp only[hn,hd] at h
  cases mz:Nat.blt d 999999 with
  |false=>rfl
  |true =>
   simp only[cond_true]
   rw[aD.fY (Nat.le_of_ble_eq_true mz),dU (fun e=>h (by rw[e]))]
   rfl
 ·rename_i fP
  split at h
  ·rename_i sc d hn hd
   exact absurd hd (fP _ _ hn)
  ·split
   ·rename_i r' sc hw
    rw[hw] at h
    simp only[Option.map_some,ne_eq,Option.some.injEq] at h
    rw[aD.gT,if_neg (fun e=>h e.1.symm)]
   ·rfl
theorem vi(aw qB:aD)(x:HR)(r:Nat)(h:qB.get r=aw.get r):(r8 qB x.2.1.dst x.2.2).get r=(r8 aw x.2.1.dst x.2.2).get r:=by
 unfold r8
 split
 ·rename_i sc d _ _
  cases mz:Nat.blt d 999999 with
  |false=>exact h
  |true =>
   simp only[cond_true]
   rw[aD.fY (Nat.le_of_ble_eq_true mz),aD.fY (Nat.le_of_ble_eq_true mz),h]
 ·split
  ·rw[aD.gT,aD.gT,h]
  ·exact h
theorem fD(U:List Nat)(t:Nat):∀(rs:List HR) (s:St),(∀x∈rs,x.2.1.dst=some t→x.1∈U)→(app U rs s).env.get t=s.env.get t
 |[],s,_=>rfl
 |(i,o,res)::rs,s,h=>by
  simp only[app]
  rw[fD U t rs _ (fun x hx=>h x (by simp[hx]))]
  by_cases hi:i∈U
  ·rw[if_pos hi]
  ·rw[if_neg hi,tB,if_neg (fun e=>hi (h (i,o,res) (by simp) e))]
theorem gX(U:List Nat)(t:Nat)(x:HR)(ht:x.2.1.dst=some t)(hu:x.1 ∉ U)(rs:List HR):∀(s:St),oA rs→x∈rs→(app U rs s).env.get t=some x.2.2.val:=by
 induction rs with
 |nil=>intro s _ hx;cases hx
 |cons y rs ih =>
  intro s hd hx
  obtain⟨i,o,res⟩:=y
  show(app U rs (if i∈U then s else hAdd s o.dst res)).env.get t=_
  rcases List.mem_cons.1 hx with hx|hx
  ·subst hx
   rw[fD U t rs _ (fun y hy e=>absurd e (hd.1 t ht y hy)),if_neg hu,tB,if_pos ht]
  ·exact ih _ hd.2 hx
theorem kD(U U':List Nat)(r:Nat):∀(rs:List HR) (s s':St),(∀y∈rs,eT y=some r→(y.1∈U↔y.1∈U'))→s'.aw.get r=s.aw.get r→(app U' rs s').aw.get r=(app U rs s).aw.get r
 |[],s,s',_,h=>h
 |(i,o,res)::rs,s,s',hU,h=>by
  simp only[app]
  refine kD U U' r rs _ _ (fun y hy=>hU y (by simp[hy])) ?_
  by_cases hw:eT (i,o,res)=some r
  ·have hi:=hU (i,o,res) (by simp) hw
   by_cases h1:i∈U
   ·rw[if_pos h1,if_pos (hi.1 h1)];exact h
   ·rw[if_neg h1,if_neg (fun h2=>h1 (hi.2 h2))]
    exact vi s.aw s'.aw (i,o,res) r h
  ·have h1:∀(b:Prop) [Decidable b] (s:St),(if b then s else hAdd s o.dst res).aw.get r=s.aw.get r:=fun b _ s=>by
    split
    ·rfl
    ·exact oC s.aw (i,o,res) r hw
   rw[h1,h1];exact h
theorem lU(U:List Nat)(r:Nat):∀(rs:List HR) (s:St),(∀y∈rs,eT y=some r→y.1∈U)→(app U rs s).aw.get r=s.aw.get r
 |[],s,_=>rfl
 |(i,o,res)::rs,s,h=>by
  simp only[app]
  rw[lU U r rs _ (fun y hy=>h y (by simp[hy]))]
  by_cases hi:i∈U
  ·rw[if_pos hi]
  ·rw[if_neg hi]
   exact oC s.aw (i,o,res) r (fun e=>hi (h (i,o,res) (by simp) e))
theorem oD(U:List Nat):∀(pre post:List HR) (s:St),app U (pre++post) s=app U post (app U pre s)
 |[],_,_=>rfl
 |(i,o,res)::pre,post,s=>by
  simp only[List.cons_append,app]
  exact oD U pre post _
theorem tC{U:List Nat}{pre post:List HR}{x:HR}{r:Nat}(s:St)(h1:∀y∈pre,eT y=some r→y.1 ∉ U)(h2:∀y∈post,eT y=some r→y.1∈U)(hx:x.1∈U) :
  (app U (pre++x::post) s).aw.get r=(app [] pre s).aw.get r:=by
 rw[oD]
 obtain⟨i,o,res⟩:=x
 show(app U post (if i∈U then app U pre s else hAdd (app U pre s) o.dst res)).aw.get r=_
 rw[if_pos hx,lU U r post _ h2]
 exact kD [] U r pre s s (fun y hy hw=>⟨fun h=>(by cases h),fun h=>absurd h (h1 y hy hw)⟩) rfl
theorem Bx{U U':List Nat}{rs pre post:List HR}{x:HR}(zn:rs=pre++x::post)(hd:oA rs)(hU:∀j,j∈U'↔j∈U∧j≠x.1)(vj:∀y∈rs,y.1=x.1→y=x)(Ph:x ∉ pre)(G6:x.1∈U)
  (F7:∀r,eT x=some r→∀y∈pre,eT y=some r→y.1 ∉ U) (vk:∀r,eT x=some r→∀y∈post,eT y=some r→y.1∈U) (N4:x ∉ post) (s:St) :
  EP (hAdd (app U rs s) x.2.1.dst x.2.2) (app U' rs s):=by
 have hx:x∈rs:=by rw[zn];simp
 have uP:x.1 ∉ U':=fun h=>((hU _).1 h).2 rfl
 refine⟨fun t => ?_,fun r => ?_⟩
 ·rw[tB]
  by_cases ht:x.2.1.dst=some t
  ·rw[if_pos ht,gX U' t x ht uP rs s hd hx]
  ·rw[if_neg ht]
   by_cases hy:∃y∈rs,y.2.1.dst=some t∧y.1 ∉ U
   ·obtain⟨y,hy,It,J9⟩:=hy
    rw[gX U t y It J9 rs s hd hy,gX U' t y It (fun h=>J9 ((hU _).1 h).1) rs s hd hy]
   ·have h1:∀y∈rs,y.2.1.dst=some t→y.1∈U:=fun y Cd F8=>Classical.byContradiction fun hc=>hy ⟨y,Cd,F8,hc⟩
    rw[fD U t rs s h1,fD U' t rs s (fun y Cd F8=>(hU _).2 ⟨h1 y Cd F8,fun e=>ht (by rw[←vj y Cd e];exact F8)⟩)]
 ·by_cases hw:eT x=some r
  ·have e1:(app U' rs s).aw.get r=(r8 (app U' pre s).aw x.2.1.dst x.2.2).get r:=by
    rw[zn,oD]
    obtain⟨i,o,res⟩:=x
    show(app U' post (if i∈U' then app U' pre s else hAdd (app U' pre s) o.dst res)).aw.get r=_
    rw[if_neg uP,lU U' r post _ (fun y hy I4=>(hU _).2 ⟨vk r hw y hy I4,fun e=>N4 (by rw[←vj y (by rw[zn];simp[hy]) e];exact hy)⟩)]
    rfl
   rw[e1]
   show _=(r8 (app U rs s).aw x.2.1.dst x.2.2).get r
   refine vi _ _ x r ?_
   rw[zn,tC s (F7 r hw) (vk r hw) G6]
   exact kD [] U' r pre s s (fun y hy I4=>⟨fun h=>(by cases h),fun h=>absurd ((hU _).1 h).1 (F7 r hw y hy I4)⟩) rfl
  ·show _=(r8 (app U rs s).aw x.2.1.dst x.2.2).get r
   rw[oC _ x r hw]
   refine kD U U' r rs s s (fun y hy I4=>⟨fun h=>(hU _).2 ⟨h,fun e=>hw (by rw[←vj y hy e];exact I4)⟩,fun h=>((hU _).1 h).1⟩) rfl
def uU(P:Program)(T:gi)(n:Nat)(ops:Array Oper):List HR→List Hint→St→Prop
 |[],_,_=>True
 |(i,o,res)::rs,hs,s=>ops[i]? = some o∧wh P T n ops o (hs.headD .none) s=some res∧uU P T n ops rs hs.tail (hAdd s o.dst res)
theorem xQ{env CZ:Env}(x:Operand)(h:∀t,x = .tmp t→CZ.get t=env.get t):bL CZ x=bL env x:=by
 cases x with
 |tmp t=>exact h t rfl
 |const v=>rfl
 |func f=>rfl
 |global g=>rfl
theorem zt{ρ ρ':Operand→Option EV}{op:Op}(hx:∀x∈op.operands,ρ' x=ρ x):wg ρ' op=wg ρ op:=by
 cases op<;>try rfl
 case load t x=>simp only[wg];rw[hx x (by simp[Op.operands])]
def qM(ρ:Operand→Option EV):Op→Option Nat
 |.load _ x=>match ρ x with
  |some (.ptr r _)=>some r
  |_=>none
 |.store _ x _=>match ρ x with
  |some (.ptr r _)=>some r
  |_=>none
 |_=>none
theorem C2{s s':St}(he:∀t,Operand.tmp t∈o.op.operands→s'.env.get t=s.env.get t)
  (hs:∀r,qM (bL s.env) o.op=some r→s'.aw.get r=s.aw.get r):hU P T o h s'=hU P T o h s:=by
 have sS:∀x∈o.op.operands,bL s'.env x=bL s.env x:=fun x hx=>xQ x (fun t ht=>he t (ht ▸ hx))
 have nZ:bk T s'.aw o.dst o.op (bL s'.env) h=bk T s.aw o.dst o.op (bL s.env) h:=xM sS (fun t x r off ho hx=>hs r (by rw[ho];simp[qM,hx]))
 have ox:wg (bL s'.env) o.op=wg (bL s.env) o.op:=zt sS
 have F9:ru (bL s'.env) o.op (bk T s'.aw o.dst o.op (bL s'.env) h)=ru (bL s.env) o.op (bk T s.aw o.dst o.op (bL s.env) h):=by
  rw[nZ];unfold ru;rw[ox]
 unfold hU
 split
 ·rename_i t x y ho
  rw[uT sS (fun t x y r off ho hx=>hs r (by rw[ho];simp[qM,hx]))]
 ·rename_i c hc
  rw[hc] at sS
  have K0:jn s'.env c.args.toList=jn s.env c.args.toList:=pC (fun x hx=>sS x (by simp[Op.operands,Call.operands];exact .inr (by simpa using hx)))
  split
  ·rw[K0]
  ·rfl
  ·rfl
  ·exact F9
 ·exact F9
theorem E5(ay:hU P T o h s=some res){r:Nat}(hr:qM (bL s.env) o.op=some r):res.rd=some r∨(res.new=none∧res.wr.map (·.1)=some r):=by
 unfold hU at ay
 split at ay
 ·rename_i t x y nZ
  right
  split at ay
  ·rename_i r' sc ob J8
   injection ay with ay;subst ay
   refine⟨rfl,?_⟩
   rw[nZ] at hr J8
   unfold qM at hr
   simp only at hr
   split at hr
   ·rename_i q off hq
    injection hr with hr;subst hr
    rw[we J8 hq];rfl
   ·cases hr
  ·cases ay
 ·rename_i c nZ
  rw[nZ] at hr
  cases hr
 ·left
  unfold ru at ay
  split at ay
  ·injection ay with ay;subst ay
   show wg (bL s.env) o.op=some r
   rename_i xz Pj _ _ _
   cases ho:o.op<;>rw[ho] at hr<;>first|(cases hr;done)|skip
   ·simpa[qM,wg] using hr
   ·rename_i t x y;exact absurd ho (xz t x y)
  ·cases ay
end
end Go.Proofs.YtnjhplhbmapclaaGreatDoor.Sym
