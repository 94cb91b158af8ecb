/- Lemmas for the statements of this seat. -/
import Derived.Test.YtfjfekodeplcoaaGreatWSymO
namespace Go.Proofs.YtfjfekodeplcoaaGreat.Sym
open Go Go.RowKit
theorem pq{ρ ρ':Operand→Option EV} : ∀{l:List (Nat×Operand)},(∀x∈l.map (·.2),ρ' x=ρ x)→oA ρ' l=oA ρ l
 |[],_=>rfl
 |(i,x)::r,h=>by
  unfold oA
  rw[h x (by simp),pq (l:=r) (fun y hy=>h y (by simp at hy ⊢;exact .inr hy))]
theorem tk{ρ ρ':Operand→Option EV} : ∀{l:List (Nat×Operand)},(∀x∈l.map (·.2),ρ' x=ρ x)→qh ρ' l=qh ρ l
 |[],_=>rfl
 |(i,x)::r,h=>by
  unfold qh
  rw[h x (by simp),tk (l:=r) (fun y hy=>h y (by simp at hy ⊢;exact .inr hy))]
theorem Dd{T:ja}{sto sto':aG}{dst:Option Nat}{op:Op}{ρ ρ':Operand→Option EV}{h:Hint}(hx:∀x∈op.operands,ρ' x=ρ x)
  (hs:∀t x r off,op = .load t x→ρ x=some (.ptr r off)→sto'.get r=sto.get r):cr T sto' dst op ρ' h=cr T sto dst op ρ h:=by
 cases op<;>simp only[Op.operands] at hx<;>simp only[cr]
 case move x=>rw[hx x (by simp)]
 case assign x=>rw[hx x (by simp)]
 case pick c a b =>
  have h1:=hx c (by simp)
  have h2:=hx a (by simp)
  have h3:=hx b (by simp)
  have h4:∀d:Bool,ρ' (bif d then a else b)=ρ (bif d then a else b):=fun d=>by cases d<;>simp[h2,h3]
  rw[h1]
  simp only[h4]
 case box t x=>rw[hx x (by simp)]
 case build t ps=>rw[pq (fun x qV=>hx x (by simpa using qV)),tk (fun x qV=>hx x (by simpa using qV))]
 case buildSlice t n ps=>rw[pq (fun x qV=>hx x (by simpa using qV))]
 case load t x =>
  have h1:=hx x (by simp)
  rw[h1]
  cases T.get t with
  |none=>rfl
  |some d =>
   cases hr:ρ x with
   |none=>rfl
   |some e =>
    cases e with
    |ptr r off=>simp only[hs t x r off rfl hr]
    |_=>rfl
 case nilCheck x=>rw[hx x (by simp)]
 case binOp op t x y yt=>rw[hx x (by simp),hx y (by simp)]
 case unOp op t x=>rw[hx x (by simp)]
 case convert s t x=>rw[hx x (by simp)]
 case makeInterface t x=>rw[hx x (by simp)]
 case makeFunc fn f1 cap =>
  have h1:∀x∈cap.toList,ρ' x=ρ x:=fun x qV=>hx x (by simp only[Array.mem_append];exact .inr (by simpa using qV))
  generalize cap.toList=l at h1 ⊢
  generalize f1.toList=l1
  cases fn<;>cases l1<;>try rfl
  rcases l with _|⟨x,_|⟨y,l⟩⟩
  ·rfl
  ·simp only[h1 x (by simp)]
  ·rfl
 case makeSlice t x y=>rw[hx x (by simp),hx y (by simp)]
 case slice t x lo hi mx =>
  have h1:=hx x (by simp)
  have h2:∀d:EV,HK ρ' lo d=HK ρ lo d:=fun d=>by
   cases lo with
   |none=>rfl
   |some y=>exact hx y (by simp)
  have h3:∀d:EV,HK ρ' hi d=HK ρ hi d:=fun d=>by
   cases hi with
   |none=>rfl
   |some y=>exact hx y (by simp)
  simp only[h1,h2,h3]
 case fieldAddr t x f=>rw[hx x (by simp)]
 case field t x f=>rw[hx x (by simp)]
 case indexAddr t x y=>rw[hx x (by simp),hx y (by simp)]
 case index t x i=>rw[hx x (by simp),hx i (by simp)]
 case extract x i=>rw[hx x (by simp)]
 case typeAssert x xt t ok=>cases ok<;>simp only[hx x (by simp)]
 case call c =>
  obtain⟨cl,args,CY⟩:=c
  simp only
  split
  ·rename_i x t fZ _
   rw[hx x (by simp[Call.operands,GL fZ])]
  ·rename_i x y fZ
   rw[hx x (by simp[Call.operands,sS fZ]),hx y (by simp[Call.operands,sS fZ])]
  ·rename_i x y fZ
   rw[hx x (by simp[Call.operands,sS fZ]),hx y (by simp[Call.operands,sS fZ])]
  ·rfl
theorem uU{env Iq:Env} : ∀{l:List Operand},(∀x∈l,cA Iq x=cA env x)→kh Iq l=kh env l
 |[],_=>rfl
 |x::r,h=>by
  unfold kh
  rw[h x (by simp),uU (l:=r) (fun y hy=>h y (by simp[hy]))]
structure XR where
 val:EV
 new:Option SC
 wr:Option (Nat×SC)
 rd:Option Nat
 ob:List Prop
def storeAt(T:ja)(op:Op)(dst:Option Nat)(h:Hint)(ρ:Operand→Option EV)(sto:aG):Option (Nat×SC×List Prop) :=
 match op,dst with
 |.store t x y,none=>match T.get t,ρ x,ρ y with
  |some d,some (.ptr r off),some e=>match kd e,sto.get r with
   |some cs,some sc=>bif Nat.beq cs.length d.size&&Nat.blt r 999999 then
     match h with
     |.cells sc'=>some (r,sc',[off+cs.length≤sc.jc.length,cF sc.jc off cs=sc'.jc])
     |_=>match sc with
      |.lit cells=>bif Nat.ble (off+cs.length) cells.length then some (r,.lit (cF cells off cs),[]) else none
      |_=>none
    else none
   |_,_=>none
  |_,_,_=>none
 |_,_=>none
theorem BO{T:ja}{o:Oper}{h:Hint}{s:St}{r:Nat}{sc:SC}{ob:List Prop}(aD:storeAt T o.op o.dst h (cA s.env) s.sto=some (r,sc,ob)) :
  pI T o h s=some (⟨s.env,aG.set s.sto r sc⟩,ob)∧o.dst=none:=by
 unfold storeAt at aD
 split at aD
 ·rename_i t x y ml ow
  refine⟨?_,ow⟩
  unfold pI
  rw[ml,ow]
  simp only
  split at aD
  ·rename_i d r' off e hd hx hy
   simp only[hd,hx,hy]
   split at aD
   ·rename_i cs BJ ot gD
    simp only[ot,gD]
    cases hl:(Nat.beq cs.length d.size&&Nat.blt r' 999999) with
    |false=>simp[hl] at aD
    |true =>
     simp only[hl,cond_true] at aD ⊢
     split at aD
     ·injection aD with aD;injection aD with h1 h2;injection h2 with h2 h3
      subst h1;subst h2;subst h3
      rfl
     ·rename_i iO
      split at aD
      ·rename_i cells
       cases hle:Nat.ble (off+cs.length) cells.length with
       |false=>simp[hle] at aD
       |true =>
        simp only[hle,cond_true] at aD
        injection aD with aD;injection aD with h1 h2;injection h2 with h2 h3
        subst h1;subst h2;subst h3
        cases h<;>first|(simp only[hle,cond_true];done)|exact absurd rfl (iO _)
      ·cases aD
   ·cases aD
  ·cases aD
 ·cases aD
theorem AG{T:ja}{op:Op}{dst:Option Nat}{h:Hint}{ρ ρ':Operand→Option EV}{sto sto':aG}(hx:∀x∈op.operands,ρ' x=ρ x)
  (hs:∀t x y r off,op = .store t x y→ρ x=some (.ptr r off)→sto'.get r=sto.get r):storeAt T op dst h ρ' sto'=storeAt T op dst h ρ sto:=by
 unfold storeAt
 split
 ·rename_i t x y
  simp only[Op.operands] at hx
  rw[hx x (by simp),hx y (by simp)]
  split
  ·rename_i d r off e hd hr hy
   rw[hs t x y r off rfl hr]
  ·rfl
 ·rfl
theorem BP{T:ja}{t:TypeId}{x y:Operand}{dst:Option Nat}{h:Hint}{ρ:Operand→Option EV}{sto:aG}{r r' off:Nat}{sc:SC}{ob:List Prop}
  (aD:storeAt T (.store t x y) dst h ρ sto=some (r',sc,ob)) (hx:ρ x=some (.ptr r off)):r'=r:=by
 unfold storeAt at aD
 cases dst with
 |some d=>cases aD
 |none =>
  simp only[hx] at aD
  cases hd:T.get t with
  |none=>simp[hd] at aD
  |some d =>
   simp only[hd] at aD
   cases hy:ρ y with
   |none=>simp[hy] at aD
   |some e =>
    simp only[hy] at aD
    split at aD
    ·rename_i cs BJ ot gD
     cases hl:(Nat.beq cs.length d.size&&Nat.blt r 999999) with
     |false=>simp[hl] at aD
     |true =>
      simp only[hl,cond_true] at aD
      split at aD
      ·injection aD with aD;injection aD with h1 h2;exact h1.symm
      ·split at aD
       ·rename_i cells
        cases hle:Nat.ble (off+cs.length) cells.length with
        |false=>simp[hle] at aD
        |true =>
         simp only[hle,cond_true] at aD
         injection aD with aD;injection aD with h1 h2;exact h1.symm
       ·cases aD
    ·cases aD
def BQ(ρ:Operand→Option EV):Op→Option Nat
 |.load _ x=>match ρ x with
  |some (.ptr r _)=>some r
  |_=>none
 |_=>none
def gd(ρ:Operand→Option EV)(op:Op):Option mU→Option XR
 |some res=>some ⟨res.val,res.new,none,BQ ρ op,res.ob⟩
 |none=>none
theorem zj(sout:aG):∀sto:aG,kW [] sout sto=sto
 |[]=>rfl
 |(x,sc)::sto=>by simp only[kW,assoc,zj sout sto,Bool.cond_self]
def Ir:Operand→Bool
 |.const (.slice none 0 0)=>true
 |_=>false
theorem Is{env:Env}{x:Operand}(h:Ir x=false):C7 true env x=cA env x:=by
 unfold C7
 split
 ·rw[Ir] at h;cases h
 ·rfl
theorem De(env:Env):∀(l:List Operand) {ps:List PV},l.any Ir=false→kh env l=some ps→A5 true env (assoc []) l=some (ps.map EV.pv)
 |[],ps,_,h=>by injection h with h;subst h;rfl
 |x::l,ps,hn,h=>by
  rw[List.any_cons,Bool.or_eq_false_iff] at hn
  unfold kh at h
  split at h
  ·rename_i p qs hx hq
   injection h with h;subst h
   unfold A5
   rw[Is hn.1,hx,De env l hn.2 hq]
   rfl
  ·cases h
def hU(P:Program)(T:ja)(o:Oper)(h:Hint)(s:St):Option XR :=
 match o.op with
 |.store _ _ _=>match storeAt T o.op o.dst h (cA s.env) s.sto with
  |some (r,sc,ob)=>some ⟨.dead,none,some (r,sc),none,ob⟩
  |none=>none
 |.call c=>match c.callee with
  |.value (.func f)=>match h,kh s.env c.args.toList with
   |.pv r,some ps=>some ⟨.pv r,none,none,none,[fG P f ps r]⟩
   |.bN [] (some (y,d)) (.row y1 off len sz) [(y2,sc)],some ps=>bif Nat.beq y y1&&Nat.beq y y2&&eT sc&&tG o.dst d && !(c.args.toList.any Ir)&&Nat.blt y 999999 then
     some ⟨.row d off len sz,some sc,none,none,[av P f (ps.map EV.pv) [] (.row y off len sz) [(y,sc)]]⟩ else none
   |_,_=>none
  |.builtin .append=>none
  |.builtin .copy=>none
  |_=>gd (cA s.env) o.op (cr T s.sto o.dst o.op (cA s.env) h)
 |_=>gd (cA s.env) o.op (cr T s.sto o.dst o.op (cA s.env) h)
def oJ(s:St)(dst:Option Nat):Option SC→Bool
 |none=>true
 |some _=>match dst with
  |none=>false
  |some d=>(s.sto.get d).isNone&&Nat.blt d 999999
def BR(P:Program)(T:ja)(n:Nat)(ops:Array Oper)(o:Oper)(h:Hint)(s:St):Option XR :=
 bif gp n o.dst then
  match o.guard with
  |none=>match hU P T o h s with
   |some res=>bif oJ s o.dst res.new then some res else none
   |none=>none
  |some (j,want)=>match (ops[j]?).bind (·.dst) with
   |some t=>match s.env.get t with
    |some (.pv (.bool b))=>match h with
     |.skip=>some ⟨.pv (.bx []),none,none,none,[b = !want]⟩
     |h=>match hU P T o h s with
      |some res=>bif oJ s o.dst res.new then some ⟨res.val,res.new,res.wr,res.rd,(b=want)::res.ob⟩ else none
      |none=>none
    |some (.pv (.bx _))=>match h with
     |.skip=>some ⟨.pv (.bx []),none,none,none,[]⟩
     |_=>none
    |_=>none
   |none=>none
 else none
def xO(sto:aG)(dst:Option Nat)(res:XR):aG :=
 match res.new,dst with
  |some sc,some d=>bif Nat.blt d 999999 then (d,sc)::sto else sto
  |_,_=>match res.wr with
   |some (r,sc)=>aG.set sto r sc
   |none=>sto
def hAdd(s:St)(dst:Option Nat)(res:XR):St:=⟨jg s.env dst res.val,xO s.sto dst res⟩
section
variable {P:Program} {T:ja} {Γ:Ctx} {s s':St} {a:Act} {w:World} {β:Nat→Option Nat} {I:Nat→Prop} {o:Oper} {h:Hint} {ob:List Prop} {res:XR} {ops:Array Oper}
theorem Df{r0:mU}{rd:Option Nat}(hf:oJ s o.dst r0.new=true):rG s o.dst r0=some (hAdd s o.dst ⟨r0.val,r0.new,none,rd,r0.ob⟩,r0.ob):=by
 obtain⟨val,new,ob⟩:=r0
 unfold rG hAdd xO
 cases new with
 |none=>rfl
 |some sc =>
  unfold oJ at hf
  simp only
  cases hd:o.dst with
  |none=>rw[hd] at hf;cases hf
  |some d =>
   rw[hd] at hf
   simp only at hf ⊢
   rw[Bool.and_eq_true] at hf
   cases hg:s.sto.get d with
   |none=>simp only[hf.2,cond_true]
   |some _=>rw[hg] at hf;cases hf.1
theorem Dg(hT:lH P T)(hs:∀r,aS Γ.sin r→Γ.n≤r)(hr:Rel Γ s a w)(aD:hU P T o h s=some res)(hf:oJ s o.dst res.new=true)(hd:gp Γ.n o.dst=true)(bK:cW res.ob)
  {K:Act→World→Prop} {Q:Exit→Act→World→Prop} (hk:∀a' w',Rel Γ (hAdd s o.dst res) a' w'→K a' w'):o.wp P a w K Q:=by
 have gen:gd (cA s.env) o.op (cr T s.sto o.dst o.op (cA s.env) h)=some res→o.wp P a w K Q:=by
  intro aw
  unfold gd at aw
  split at aw
  ·rename_i r0 Pp
   injection aw with aw;subst aw
   obtain⟨β,I,hr⟩:=hr
   obtain⟨v,w',hex,pE⟩:=wO hT hr.pre Pp bK
   have:=(uF hs hr hd pE (Df (rd:=BQ (cA s.env) o.op) hf)).1
   unfold Oper.wp
   rw[hex]
   exact hk _ _ this
  ·cases aw
 unfold hU at aD
 split at aD
 ·rename_i t x y ml
  split at aD
  ·rename_i r sc ob QL
   injection aD with aD;subst aD
   obtain⟨h1,h2⟩:=BO QL
   refine qU hT hr h1 bK (fun a' w' dy=>hk a' w' ?_)
   unfold hAdd xO
   rw[h2]
   exact dy
  ·cases aD
 ·rename_i c ml
  split at aD
  ·rename_i f jb
   split at aD
   ·rename_i r ps jf
    injection aD with aD;subst aD
    have hc:rM P Γ.n o (.pv r) s=some (⟨jg s.env o.dst (.pv r),s.sto⟩,[fG P f ps r]):=by
     unfold rM
     rw[ml]
     simp only[jb,jf,hd,cond_true]
    exact rN hr hc bK (fun a' w' h=>hk a' w' h)
   ·rename_i y d y1 off len sz y2 sc ps jf
    cases hb:(Nat.beq y y1&&Nat.beq y y2&&eT sc&&tG o.dst d && !(c.args.toList.any Ir)&&Nat.blt y 999999) with
    |false=>rw[hb] at aD;cases aD
    |true =>
     simp only[hb,cond_true] at aD
     injection aD with aD;subst aD
     simp only[Bool.and_eq_true] at hb
     obtain⟨⟨⟨⟨⟨b1,b2⟩,b3⟩,b4⟩,b5⟩,b6⟩:=hb
     rw[Bool.not_eq_true'] at b5
     have e1:y=y1:=Nat.eq_of_beq_eq_true b1
     have e2:y=y2:=Nat.eq_of_beq_eq_true b2
     have e3:=pS b4
     subst e1;subst e2
     have Vz:s.sto.get d=none:=by
      unfold oJ at hf
      rw[e3] at hf
      simp only[Bool.and_eq_true] at hf
      simpa using hf.1
     have mh:Nat.blt d 999999=true:=by
      unfold oJ at hf
      rw[e3] at hf
      simp only[Bool.and_eq_true] at hf
      exact hf.2
     have TI:aG.get [(y,sc)] y=some sc:=by rw[aG.bY (Nat.le_of_ble_eq_true b6),Nat.beq_refl];rfl
     have j0:Nat.blt d Γ.n=true:=by rw[e3] at hd;exact hd
     have hc:pO P Γ.n o (.bN [] (some (y,d)) (.row y off len sz) [(y,sc)]) s=some (⟨jg s.env o.dst (.row d off len sz),(d,sc)::s.sto⟩,[av P f (ps.map EV.pv) [] (.row y off len sz) [(y,sc)]]):=by
      unfold pO
      rw[ml]
      simp only[jb,O3,KA,List.append_nil,De _ _ b5 jf,hd,lV,List.all_nil,List.all_cons,b3,b6,TI,Nat.beq_refl,cond_true,Vz,et,sW,j0,zj,kV,Option.map_some,tG,Option.isSome_none,Bool.false_or,Bool.and_true,Bool.false_and,givenBy,List.filter_nil,List.map_nil,fc]
     refine qW hs hr hc bK (fun a' w' h=>hk a' w' ?_)
     unfold hAdd xO
     simp only[e3,mh,cond_true] at h ⊢
     exact h
   ·cases aD
  ·cases aD
  ·cases aD
  ·exact gen aD
 ·exact gen aD
theorem E1(hT:lH P T)(hs:∀r,aS Γ.sin r→Γ.n≤r)(hr:Rel Γ s a w)(aD:BR P T Γ.n ops o h s=some res)(bK:cW res.ob)
  {K:Act→World→Prop} {Q:Exit→Act→World→Prop} (hk:∀a' w',Rel Γ (hAdd s o.dst res) a' w'→K a' w') :
  if Region.wanted o (yielded ops a.tmps) then o.wp P a w K Q∨(o.asks P a w∧LetsOut Q) else K (a.put o.dst undef) w:=by
 unfold BR at aD
 cases hd:gp Γ.n o.dst with
 |false=>simp[hd] at aD
 |true =>
  simp only[hd,cond_true] at aD
  split at aD
  ·rename_i hg
   have hw:Region.wanted o (yielded ops a.tmps)=true:=by simp[Region.wanted,hg]
   rw[if_pos hw]
   split at aD
   ·rename_i M3 nP
    cases hf:oJ s o.dst M3.new with
    |false=>simp[hf] at aD
    |true =>
     simp only[hf,cond_true] at aD
     injection aD with aD;subst aD
     exact .inl (Dg hT hs hr nP hf hd bK hk)
   ·cases aD
  ·rename_i j want hg
   split at aD
   ·rename_i t ht
    split at aD
    ·rename_i b hb
     have hy:yielded ops a.tmps j=some b:=by
      obtain⟨β,I,dy⟩:=hr
      have hv:Rd I w (.bool b) (a.tmps.getD t undef):=dy.env t _ hb
      have A4:a.tmps.getD t undef = .bool b:=by generalize a.tmps.getD t undef=v at hv;cases hv;rfl
      unfold yielded
      rw[ht]
      simp only[Option.bind_some]
      rw[Array.getD_eq_getD_getElem?] at A4
      cases hx:a.tmps[t]? with
      |none=>rw[hx] at A4;simp[undef] at A4
      |some v=>rw[hx] at A4;simp at A4;subst A4;rfl
     have hw:Region.wanted o (yielded ops a.tmps)=(b==want):=by
      simp only[Region.wanted,hg,hy]
      cases b<;>cases want<;>rfl
     split at aD
     ·injection aD with aD;subst aD
      have RI:b = !want:=bK
      rw[if_neg (by rw[hw,RI];cases want<;>simp)]
      obtain⟨β,I,dy⟩:=hr
      exact hk _ _ ⟨β,I,dy.put (c9 hd) (uR _ _)⟩
     ·split at aD
      ·rename_i M3 nP
       cases hf:oJ s o.dst M3.new with
       |false=>simp[hf] at aD
       |true =>
        simp only[hf,cond_true] at aD
        injection aD with aD;subst aD
        obtain⟨g1,g2⟩:=bK.cons
        rw[if_pos (by rw[hw,g1];simp)]
        exact .inl (Dg hT hs hr nP hf hd g2 hk)
      ·cases aD
    ·rename_i vs hb
     split at aD
     ·injection aD with aD;subst aD
      obtain⟨β,I,dy⟩:=hr
      rw[if_neg (by rw[zd ht (dy.env t _ hb) hg];simp)]
      exact hk _ _ ⟨β,I,dy.put (c9 hd) (uR _ _)⟩
     ·cases aD
    ·cases aD
   ·cases aD
abbrev HR:=Nat×Oper×XR
def app(U:List Nat):List HR→St→St
 |[],s=>s
 |(i,o,res)::rs,s=>app U rs (if i∈U then s else hAdd s o.dst res)
def tL:List HR→Prop
 |[]=>True
 |(_,o,_)::rs=>(∀d,o.dst=some d→∀x∈rs,x.2.1.dst≠some d)∧tL rs
def iT(x:HR):Option Nat :=
 match x.2.2.new,x.2.1.dst with
 |some _,some d=>some d
 |_,_=>x.2.2.wr.map (·.1)
theorem zk(s:St)(dst:Option Nat)(res:XR)(t:Nat):(hAdd s dst res).env.get t=if dst=some t then some res.val else s.env.get t:=by
 cases dst with
 |none=>simp[hAdd,jg]
 |some d =>
  simp only[hAdd,jg,Env.get]
  cases hb:Nat.beq d t with
  |true=>have:d=t:=Nat.eq_of_beq_eq_true hb;subst this;simp
  |false =>
   have:d≠t:=by intro e;subst e;simp at hb
   simp[this]
theorem tM(sto:aG)(x:HR)(r:Nat)(h:iT x≠some r):(xO sto x.2.1.dst x.2.2).get r=sto.get r:=by
 unfold iT at h
 unfold xO
 split
 ·rename_i sc d hn hd
  simp only[hn,hd] at h
  cases mh:Nat.blt d 999999 with
  |false=>rfl
  |true =>
   simp only[cond_true]
   rw[aG.bY (Nat.le_of_ble_eq_true mh),di (fun e=>h (by rw[e]))]
   rfl
 ·rename_i iO
  split at h
  ·rename_i sc d hn hd
   exact absurd hd (iO _ _ hn)
  ·split
   ·rename_i r' sc hw
    rw[hw] at h
    simp only[Option.map_some,ne_eq,Option.some.injEq] at h
    rw[aG.jD,if_neg (fun e=>h e.1.symm)]
   ·rfl
theorem A7(sto sto':aG)(x:HR)(r:Nat)(h:sto'.get r=sto.get r):(xO sto' x.2.1.dst x.2.2).get r=(xO sto x.2.1.dst x.2.2).get r:=by
 unfold xO
 split
 ·rename_i sc d _ _
  cases mh:Nat.blt d 999999 with
  |false=>exact h
  |true =>
   simp only[cond_true]
   rw[aG.bY (Nat.le_of_ble_eq_true mh),aG.bY (Nat.le_of_ble_eq_true mh),h]
 ·split
  ·rw[aG.jD,aG.jD,h]
  ·exact h
theorem jH(U:List Nat)(t:Nat):∀(rs:List HR) (s:St),(∀x∈rs,x.2.1.dst=some t→x.1∈U)→(app U rs s).env.get t=s.env.get t
 |[],s,_=>rfl
 |(i,o,res)::rs,s,h=>by
  simp only[app]
  rw[jH U t rs _ (fun x hx=>h x (by simp[hx]))]
  by_cases hi:i∈U
  ·rw[if_pos hi]
  ·rw[if_neg hi,zk,if_neg (fun e=>hi (h (i,o,res) (by simp) e))]
theorem kY(U:List Nat)(t:Nat)(x:HR)(ht:x.2.1.dst=some t)(hu:x.1 ∉ U)(rs:List HR):∀(s:St),tL rs→x∈rs→(app U rs s).env.get t=some x.2.2.val:=by
 induction rs with
 |nil=>intro s _ hx;cases hx
 |cons y rs ih =>
  intro s hd hx
  obtain⟨i,o,res⟩:=y
  show(app U rs (if i∈U then s else hAdd s o.dst res)).env.get t=_
  rcases List.mem_cons.1 hx with hx|hx
  ·subst hx
   rw[jH U t rs _ (fun y hy e=>absurd e (hd.1 t ht y hy)),if_neg hu,zk,if_pos ht]
  ·exact ih _ hd.2 hx
theorem oK(U U':List Nat)(r:Nat):∀(rs:List HR) (s s':St),(∀y∈rs,iT y=some r→(y.1∈U↔y.1∈U'))→s'.sto.get r=s.sto.get r→(app U' rs s').sto.get r=(app U rs s).sto.get r
 |[],s,s',_,h=>h
 |(i,o,res)::rs,s,s',hU,h=>by
  simp only[app]
  refine oK U U' r rs _ _ (fun y hy=>hU y (by simp[hy])) ?_
  by_cases hw:iT (i,o,res)=some r
  ·have hi:=hU (i,o,res) (by simp) hw
   by_cases h1:i∈U
   ·rw[if_pos h1,if_pos (hi.1 h1)];exact h
   ·rw[if_neg h1,if_neg (fun h2=>h1 (hi.2 h2))]
    exact A7 s.sto s'.sto (i,o,res) r h
  ·have h1:∀(b:Prop) [Decidable b] (s:St),(if b then s else hAdd s o.dst res).sto.get r=s.sto.get r:=fun b _ s=>by
    split
    ·rfl
    ·exact tM s.sto (i,o,res) r hw
   rw[h1,h1];exact h
theorem qw(U:List Nat)(r:Nat):∀(rs:List HR) (s:St),(∀y∈rs,iT y=some r→y.1∈U)→(app U rs s).sto.get r=s.sto.get r
 |[],s,_=>rfl
 |(i,o,res)::rs,s,h=>by
  simp only[app]
  rw[qw U r rs _ (fun y hy=>h y (by simp[hy]))]
  by_cases hi:i∈U
  ·rw[if_pos hi]
  ·rw[if_neg hi]
   exact tM s.sto (i,o,res) r (fun e=>hi (h (i,o,res) (by simp) e))
theorem tN(U:List Nat):∀(pre post:List HR) (s:St),app U (pre++post) s=app U post (app U pre s)
 |[],_,_=>rfl
 |(i,o,res)::pre,post,s=>by
  simp only[List.cons_append,app]
  exact tN U pre post _
theorem zl{U:List Nat}{pre post:List HR}{x:HR}{r:Nat}(s:St)(h1:∀y∈pre,iT y=some r→y.1 ∉ U)(h2:∀y∈post,iT y=some r→y.1∈U)(hx:x.1∈U) :
  (app U (pre++x::post) s).sto.get r=(app [] pre s).sto.get r:=by
 rw[tN]
 obtain⟨i,o,res⟩:=x
 show(app U post (if i∈U then app U pre s else hAdd (app U pre s) o.dst res)).sto.get r=_
 rw[if_pos hx,qw U r post _ h2]
 exact oK [] U r pre s s (fun y hy hw=>⟨fun h=>(by cases h),fun h=>absurd h (h1 y hy hw)⟩) rfl
theorem G2{U U':List Nat}{rs pre post:List HR}{x:HR}(G3:rs=pre++x::post)(hd:tL rs)(hU:∀j,j∈U'↔j∈U∧j≠x.1)(A8:∀y∈rs,y.1=x.1→y=x)(Xc:x ∉ pre)(M4:x.1∈U)
  (Hw:∀r,iT x=some r→∀y∈pre,iT y=some r→y.1 ∉ U) (x5:∀r,iT x=some r→∀y∈post,iT y=some r→y.1∈U) (VA:x ∉ post) (s:St) :
  Kv (hAdd (app U rs s) x.2.1.dst x.2.2) (app U' rs s):=by
 have hx:x∈rs:=by rw[G3];simp
 have qV:x.1 ∉ U':=fun h=>((hU _).1 h).2 rfl
 refine⟨fun t => ?_,fun r => ?_⟩
 ·rw[zk]
  by_cases ht:x.2.1.dst=some t
  ·rw[if_pos ht,kY U' t x ht qV rs s hd hx]
  ·rw[if_neg ht]
   by_cases hy:∃y∈rs,y.2.1.dst=some t∧y.1 ∉ U
   ·obtain⟨y,hy,OG,QM⟩:=hy
    rw[kY U t y OG QM rs s hd hy,kY U' t y OG (fun h=>QM ((hU _).1 h).1) rs s hd hy]
   ·have h1:∀y∈rs,y.2.1.dst=some t→y.1∈U:=fun y yT LN=>Classical.byContradiction fun hc=>hy ⟨y,yT,LN,hc⟩
    rw[jH U t rs s h1,jH U' t rs s (fun y yT LN=>(hU _).2 ⟨h1 y yT LN,fun e=>ht (by rw[←A8 y yT e];exact LN)⟩)]
 ·by_cases hw:iT x=some r
  ·have e1:(app U' rs s).sto.get r=(xO (app U' pre s).sto x.2.1.dst x.2.2).get r:=by
    rw[G3,tN]
    obtain⟨i,o,res⟩:=x
    show(app U' post (if i∈U' then app U' pre s else hAdd (app U' pre s) o.dst res)).sto.get r=_
    rw[if_neg qV,qw U' r post _ (fun y hy Pq=>(hU _).2 ⟨x5 r hw y hy Pq,fun e=>VA (by rw[←A8 y (by rw[G3];simp[hy]) e];exact hy)⟩)]
    rfl
   rw[e1]
   show _=(xO (app U rs s).sto x.2.1.dst x.2.2).get r
   refine A7 _ _ x r ?_
   rw[G3,zl s (Hw r hw) (x5 r hw) M4]
   exact oK [] U' r pre s s (fun y hy Pq=>⟨fun h=>(by cases h),fun h=>absurd ((hU _).1 h).1 (Hw r hw y hy Pq)⟩) rfl
  ·show _=(xO (app U rs s).sto x.2.1.dst x.2.2).get r
   rw[tM _ x r hw]
   refine oK U U' r rs s s (fun y hy Pq=>⟨fun h=>(hU _).2 ⟨h,fun e=>hw (by rw[←A8 y hy e];exact Pq)⟩,fun h=>((hU _).1 h).1⟩) rfl
def AH(P:Program)(T:ja)(n:Nat)(ops:Array Oper):List HR→List Hint→St→Prop
 |[],_,_=>True
 |(i,o,res)::rs,hs,s=>ops[i]? = some o∧BR P T n ops o (hs.headD .none) s=some res∧AH P T n ops rs hs.tail (hAdd s o.dst res)
theorem Dh{env Iq:Env}(x:Operand)(h:∀t,x = .tmp t→Iq.get t=env.get t):cA Iq x=cA env x:=by
 cases x with
 |tmp t=>exact h t rfl
 |const v=>rfl
 |func f=>rfl
 |global g=>rfl
theorem E2{ρ ρ':Operand→Option EV}{op:Op}(hx:∀x∈op.operands,ρ' x=ρ x):BQ ρ' op=BQ ρ op:=by
 cases op<;>try rfl
 case load t x=>simp only[BQ];rw[hx x (by simp[Op.operands])]
def wi(ρ:Operand→Option EV):Op→Option Nat
 |.load _ x=>match ρ x with
  |some (.ptr r _)=>some r
  |_=>none
 |.store _ x _=>match ρ x with
  |some (.ptr r _)=>some r
  |_=>none
 |_=>none
theorem It{s s':St}(he:∀t,Operand.tmp t∈o.op.operands→s'.env.get t=s.env.get t)
  (hs:∀r,wi (cA s.env) o.op=some r→s'.sto.get r=s.sto.get r):hU P T o h s'=hU P T o h s:=by
 have yx:∀x∈o.op.operands,cA s'.env x=cA s.env x:=fun x hx=>Dh x (fun t ht=>he t (ht ▸ hx))
 have ml:cr T s'.sto o.dst o.op (cA s'.env) h=cr T s.sto o.dst o.op (cA s.env) h:=Dd yx (fun t x r off ho hx=>hs r (by rw[ho];simp[wi,hx]))
 have q8:BQ (cA s'.env) o.op=BQ (cA s.env) o.op:=E2 yx
 have LO:gd (cA s'.env) o.op (cr T s'.sto o.dst o.op (cA s'.env) h)=gd (cA s.env) o.op (cr T s.sto o.dst o.op (cA s.env) h):=by
  rw[ml];unfold gd;rw[q8]
 unfold hU
 split
 ·rename_i t x y ho
  rw[AG yx (fun t x y r off ho hx=>hs r (by rw[ho];simp[wi,hx]))]
 ·rename_i c hc
  rw[hc] at yx
  have RO:kh s'.env c.args.toList=kh s.env c.args.toList:=uU (fun x hx=>yx x (by simp[Op.operands,Call.operands];exact .inr (by simpa using hx)))
  split
  ·rw[RO]
  ·rfl
  ·rfl
  ·exact LO
 ·exact LO
theorem KJ(aD:hU P T o h s=some res){r:Nat}(hr:wi (cA s.env) o.op=some r):res.rd=some r∨(res.new=none∧res.wr.map (·.1)=some r):=by
 unfold hU at aD
 split at aD
 ·rename_i t x y ml
  right
  split at aD
  ·rename_i r' sc ob QL
   injection aD with aD;subst aD
   refine⟨rfl,?_⟩
   rw[ml] at hr QL
   unfold wi at hr
   simp only at hr
   split at hr
   ·rename_i q off hq
    injection hr with hr;subst hr
    rw[BP QL hq];rfl
   ·cases hr
  ·cases aD
 ·rename_i c ml
  rw[ml] at hr
  cases hr
 ·left
  unfold gd at aD
  split at aD
  ·injection aD with aD;subst aD
   show BQ (cA s.env) o.op=some r
   rename_i Az TX _ _ _
   cases ho:o.op<;>rw[ho] at hr<;>first|(cases hr;done)|skip
   ·simpa[wi,BQ] using hr
   ·rename_i t x y;exact absurd ho (Az t x y)
  ·cases aD
end
end Go.Proofs.YtfjfekodeplcoaaGreat.Sym
