/- Lemmas for the statements of this seat. -/
import Derived.Test.YtcpnocgollpbhaaGreatDoorW16
namespace Go.Proofs.YtcpnocgollpbhaaGreatDoor.Sym
open Go Go.RowKit
theorem rM{ρ ρ':Operand→Option EV} : ∀{l:List (Nat×Operand)},(∀x∈l.map (·.2),ρ' x=ρ x)→qJ ρ' l=qJ ρ l
 |[],_=>rfl
 |(i,x)::r,h=>by unfold qJ;rw[h x (by simp),rM (l:=r) (fun y hy=>h y (by simp at hy ⊢;exact .inr hy))]
theorem wu{ρ ρ':Operand→Option EV} : ∀{l:List (Nat×Operand)},(∀x∈l.map (·.2),ρ' x=ρ x)→sM ρ' l=sM ρ l
 |[],_=>rfl
 |(i,x)::r,h=>by unfold sM;rw[h x (by simp),wu (l:=r) (fun y hy=>h y (by simp at hy ⊢;exact .inr hy))]
theorem Is{T:lh}{aK zK:aT}{dst:Option Nat}{op:Op}{ρ ρ':Operand→Option EV}{h:Hint}(hx:∀x∈op.operands,ρ' x=ρ x)
  (hs:∀t x r off,op = .load t x→ρ x=some (.ptr r off)→zK.get r=aK.get r):cw T zK dst op ρ' h=cw T aK dst op ρ h:=by
 cases op<;>simp only[Op.operands] at hx<;>simp only[cw]
 case move x=>rw[hx x (by simp)]
 case assign x=>rw[hx x (by simp)]
 case pick c a b =>
  have h1:=hx c (by simp);have h2:=hx a (by simp);have h3:=hx b (by simp);have h4:∀d:Bool,ρ' (bif d then a else b)=ρ (bif d then a else b):=fun d=>by cases d<;>simp[h2,h3]
  rw[h1];simp only[h4]
 case box t x=>rw[hx x (by simp)]
 case build t ps=>rw[rM (fun x zt=>hx x (by simpa using zt)),wu (fun x zt=>hx x (by simpa using zt))]
 case buildSlice t n ps=>rw[rM (fun x zt=>hx x (by simpa using zt))]
 case load t x =>
  have h1:=hx x (by simp);rw[h1];cases T.get t with
  |none=>rfl
  |some d =>
   cases hr:ρ x with
   |none=>rfl
   |some e =>
    cases e with
    |ptr r off=>simp only[hs t x r off rfl hr]
    |_=>rfl
 case nilCheck x=>rw[hx x (by simp)]
 case binOp op t x y yt=>rw[hx x (by simp),hx y (by simp)]
 case unOp op t x=>rw[hx x (by simp)]
 case convert s t x=>rw[hx x (by simp)]
 case makeInterface t x=>rw[hx x (by simp)]
 case makeFunc fn f1 cap =>
  have h1:∀x∈cap.toList,ρ' x=ρ x:=fun x zt=>hx x (by simp only[Array.mem_append];exact .inr (by simpa using zt))
  generalize cap.toList=l at h1 ⊢;generalize f1.toList=l1;cases fn<;>cases l1<;>try rfl
  rcases l with _|⟨x,_|⟨y,l⟩⟩
  ·rfl
  ·simp only[h1 x (by simp)]
  ·rfl
 case makeSlice t x y=>rw[hx x (by simp),hx y (by simp)]
 case slice t x lo hi mx =>
  have h1:=hx x (by simp);have h2:∀d:EV,OA ρ' lo d=OA ρ lo d:=fun d=>by
   cases lo with
   |none=>rfl
   |some y=>exact hx y (by simp)
  have h3:∀d:EV,OA ρ' hi d=OA ρ hi d:=fun d=>by
   cases hi with
   |none=>rfl
   |some y=>exact hx y (by simp)
  simp only[h1,h2,h3]
 case fieldAddr t x f=>rw[hx x (by simp)]
 case field t x f=>rw[hx x (by simp)]
 case indexAddr t x y=>rw[hx x (by simp),hx y (by simp)]
 case index t x i=>rw[hx x (by simp),hx i (by simp)]
 case extract x i=>rw[hx x (by simp)]
 case typeAssert x xt t ok=>cases ok<;>simp only[hx x (by simp)]
 case call c =>
  obtain⟨cl,args,OH⟩:=c;simp only;split
  ·rename_i x t kO _;rw[hx x (by simp[Call.operands,RI kO])]
  ·rename_i x y kO;rw[hx x (by simp[Call.operands,Bv kO]),hx y (by simp[Call.operands,Bv kO])]
  ·rename_i x y kO;rw[hx x (by simp[Call.operands,Bv kO]),hx y (by simp[Call.operands,Bv kO])]
  ·rfl
theorem yd{env O4:Env} : ∀{l:List Operand},(∀x∈l,dA O4 x=dA env x)→oH O4 l=oH env l
 |[],_=>rfl
 |x::r,h=>by unfold oH;rw[h x (by simp),yd (l:=r) (fun y hy=>h y (by simp[hy]))]
structure XR where
 val:EV
 new:Option SC
 wr:Option (Nat×SC)
 rd:Option Nat
 ob:List Prop
def storeAt(T:lh)(op:Op)(dst:Option Nat)(h:Hint)(ρ:Operand→Option EV)(aK:aT):Option (Nat×SC×List Prop) :=
 match op,dst with
 |.store t x y,none=>match T.get t,ρ x,ρ y with
  |some d,some (.ptr r off),some e=>match nW e,aK.get r with
   |some cs,some sc=>bif Nat.beq cs.length d.size&&Nat.blt r 999999 then
     match h with
     |.cells sc'=>some (r,sc',[off+cs.length≤sc.sG.length,fg sc.sG off cs=sc'.sG])
     |_=>match sc with
      |.lit cells=>bif Nat.ble (off+cs.length) cells.length then some (r,.lit (fg cells off cs),[]) else none
      |_=>none
    else none
   |_,_=>none
  |_,_,_=>none
 |_,_=>none
theorem Gl{T:lh}{o:Oper}{h:Hint}{s:St}{r:Nat}{sc:SC}{ob:List Prop}(aO:storeAt T o.op o.dst h (dA s.env) s.aK=some (r,sc,ob)) :
  r9 T o h s=some (⟨s.env,aT.set s.aK r sc⟩,ob)∧o.dst=none:=by
 unfold storeAt at aO;split at aO
 ·rename_i t x y v7 Ih;refine⟨?_,Ih⟩;unfold r9;rw[v7,Ih];simp only;split at aO
  ·rename_i d r' off e hd hx hy;simp only[hd,hx,hy];split at aO
   ·rename_i cs LC Br pk;simp only[Br,pk];cases hl:(Nat.beq cs.length d.size&&Nat.blt r' 999999) with
    |false=>simp[hl] at aO
    |true =>
     simp only[hl,cond_true] at aO ⊢;split at aO
     ·injection aO with aO;injection aO with h1 h2;injection h2 with h2 h3
      subst h1;subst h2;subst h3;rfl
     ·rename_i fT;split at aO
      ·rename_i cells;cases hle:Nat.ble (off+cs.length) cells.length with
       |false=>simp[hle] at aO
       |true =>
        simp only[hle,cond_true] at aO;injection aO with aO;injection aO with h1 h2;injection h2 with h2 h3
        subst h1;subst h2;subst h3;cases h<;>first|(simp only[hle,cond_true];done)|exact absurd rfl (fT _)
      ·cases aO
   ·cases aO
  ·cases aO
 ·cases aO
theorem EG{T:lh}{op:Op}{dst:Option Nat}{h:Hint}{ρ ρ':Operand→Option EV}{aK zK:aT}(hx:∀x∈op.operands,ρ' x=ρ x)
  (hs:∀t x y r off,op = .store t x y→ρ x=some (.ptr r off)→zK.get r=aK.get r):storeAt T op dst h ρ' zK=storeAt T op dst h ρ aK:=by
 unfold storeAt;split
 ·rename_i t x y;simp only[Op.operands] at hx;rw[hx x (by simp),hx y (by simp)];split
  ·rename_i d r off e hd hr hy;rw[hs t x y r off rfl hr]
  ·rfl
 ·rfl
theorem Gm{T:lh}{t:TypeId}{x y:Operand}{dst:Option Nat}{h:Hint}{ρ:Operand→Option EV}{aK:aT}{r r' off:Nat}{sc:SC}{ob:List Prop}
  (aO:storeAt T (.store t x y) dst h ρ aK=some (r',sc,ob)) (hx:ρ x=some (.ptr r off)):r'=r:=by
 unfold storeAt at aO;cases dst with
 |some d=>cases aO
 |none =>
  simp only[hx] at aO;cases hd:T.get t with
  |none=>simp[hd] at aO
  |some d =>
   simp only[hd] at aO;cases hy:ρ y with
   |none=>simp[hy] at aO
   |some e =>
    simp only[hy] at aO;split at aO
    ·rename_i cs LC Br pk;cases hl:(Nat.beq cs.length d.size&&Nat.blt r 999999) with
     |false=>simp[hl] at aO
     |true =>
      simp only[hl,cond_true] at aO;split at aO
      ·injection aO with aO;injection aO with h1 h2;exact h1.symm
      ·split at aO
       ·rename_i cells;cases hle:Nat.ble (off+cs.length) cells.length with
        |false=>simp[hle] at aO
        |true =>simp only[hle,cond_true] at aO;injection aO with aO;injection aO with h1 h2;exact h1.symm
       ·cases aO
    ·cases aO
def Gn(ρ:Operand→Option EV):Op→Option Nat
 |.load _ x=>match ρ x with
  |some (.ptr r _)=>some r
  |_=>none
 |_=>none
def AP(ρ:Operand→Option EV)(op:Op):Option oP→Option XR
 |some res=>some ⟨res.val,res.new,none,Gn ρ op,res.ob⟩
 |none=>none
theorem CU(sout:aT):∀aK:aT,mA [] sout aK=aK
 |[]=>rfl
 |(x,sc)::aK=>by simp only[mA,assoc,CU sout aK,Bool.cond_self]
def O5:Operand→Bool
 |.const (.slice none 0 0)=>true
 |_=>false
theorem O6{env:Env}{x:Operand}(h:O5 x=false):Io true env x=dA env x:=by
 unfold Io;split
 ·rw[O5] at h;cases h
 ·rfl
theorem It(env:Env):∀(l:List Operand) {ps:List PV},l.any O5=false→oH env l=some ps→E9 true env (assoc []) l=some (ps.map EV.pv)
 |[],ps,_,h=>by injection h with h;subst h;rfl
 |x::l,ps,hn,h=>by
  rw[List.any_cons,Bool.or_eq_false_iff] at hn;unfold oH at h;split at h
  ·rename_i p qs hx hq;injection h with h;subst h
   unfold E9;rw[O6 hn.1,hx,It env l hn.2 hq];rfl
  ·cases h
def hU(P:Program)(T:lh)(o:Oper)(h:Hint)(s:St):Option XR :=
 match o.op with
 |.store _ _ _=>match storeAt T o.op o.dst h (dA s.env) s.aK with
  |some (r,sc,ob)=>some ⟨.dead,none,some (r,sc),none,ob⟩
  |none=>none
 |.call c=>match c.callee with
  |.value (.func f)=>match h,oH s.env c.args.toList with
   |.pv r,some ps=>some ⟨.pv r,none,none,none,[eM P f ps r]⟩
   |.bJ [] (some (y,d)) (.row y1 off len sz) [(y2,sc)],some ps=>bif Nat.beq y y1&&Nat.beq y y2&&ke sc&&zP o.dst d && !(c.args.toList.any O5)&&Nat.blt y 999999 then
     some ⟨.row d off len sz,some sc,none,none,[au P f (ps.map EV.pv) [] (.row y off len sz) [(y,sc)]]⟩ else none
   |_,_=>none
  |.builtin .append=>none
  |.builtin .copy=>none
  |_=>AP (dA s.env) o.op (cw T s.aK o.dst o.op (dA s.env) h)
 |_=>AP (dA s.env) o.op (cw T s.aK o.dst o.op (dA s.env) h)
def qP(s:St)(dst:Option Nat):Option SC→Bool
 |none=>true
 |some _=>match dst with
  |none=>false
  |some d=>(s.aK.get d).isNone&&Nat.blt d 999999
def Gp(P:Program)(T:lh)(n:Nat)(ops:Array Oper)(o:Oper)(h:Hint)(s:St):Option XR :=
 bif l7 n o.dst then
  match o.guard with
  |none=>match hU P T o h s with
   |some res=>bif qP s o.dst res.new then some res else none
   |none=>none
  |some (j,want)=>match (ops[j]?).bind (·.dst) with
   |some t=>match s.env.get t with
    |some (.pv (.bool b))=>match h with
     |.skip=>some ⟨.pv (.aF []),none,none,none,[b = !want]⟩
     |h=>match hU P T o h s with
      |some res=>bif qP s o.dst res.new then some ⟨res.val,res.new,res.wr,res.rd,(b=want)::res.ob⟩ else none
      |none=>none
    |some (.pv (.aF _))=>match h with
     |.skip=>some ⟨.pv (.aF []),none,none,none,[]⟩
     |_=>none
    |_=>none
   |none=>none
 else none
def Bx(aK:aT)(dst:Option Nat)(res:XR):aT :=
 match res.new,dst with
  |some sc,some d=>bif Nat.blt d 999999 then (d,sc)::aK else aK
  |_,_=>match res.wr with
   |some (r,sc)=>aT.set aK r sc
   |none=>aK
def hAdd(s:St)(dst:Option Nat)(res:XR):St:=⟨pF s.env dst res.val,Bx s.aK dst res⟩
section
variable {P:Program} {T:lh} {Γ:Ctx} {s s':St} {a:Act} {w:World} {β:Nat→Option Nat} {I:Nat→Prop} {o:Oper} {h:Hint} {ob:List Prop} {res:XR} {ops:Array Oper}
theorem Iu{r0:oP}{rd:Option Nat}(hf:qP s o.dst r0.new=true):zI s o.dst r0=some (hAdd s o.dst ⟨r0.val,r0.new,none,rd,r0.ob⟩,r0.ob):=by
 obtain⟨val,new,ob⟩:=r0;unfold zI hAdd Bx;cases new with
 |none=>rfl
 |some sc =>
  unfold qP at hf;simp only;cases hd:o.dst with
  |none=>rw[hd] at hf;cases hf
  |some d =>
   rw[hd] at hf;simp only at hf ⊢;rw[afA] at hf;cases hg:s.aK.get d with
   |none=>simp only[hf.2,cond_true]
   |some _=>rw[hg] at hf;cases hf.1
theorem Iv(hT:oE P T)(hs:∀r,bK Γ.sin r→Γ.n≤r)(hr:Rel Γ s a w)(aO:hU P T o h s=some res)(hf:qP s o.dst res.new=true)(hd:l7 Γ.n o.dst=true)(cv:dX res.ob)
  {K:Act→World→Prop} {Q:Exit→Act→World→Prop} (hk:∀a' w',Rel Γ (hAdd s o.dst res) a' w'→K a' w'):o.wp P a w K Q:=by
 have gen:AP (dA s.env) o.op (cw T s.aK o.dst o.op (dA s.env) h)=some res→o.wp P a w K Q:=by
  intro aw;unfold AP at aw;split at aw
  ·rename_i r0 Xd;injection aw with aw;subst aw
   obtain⟨β,I,hr⟩:=hr;obtain⟨v,w',hex,Cw⟩:=AG hT hr.pre Xd cv;have:=(Ic hs hr hd Cw (Iu (rd:=Gn (dA s.env) o.op) hf)).1;unfold Oper.wp;rw[hex];exact hk _ _ this
  ·cases aw
 unfold hU at aO;split at aO
 ·rename_i t x y v7;split at aO
  ·rename_i r sc ob YP;injection aO with aO;subst aO
   obtain⟨h1,h2⟩:=Gl YP;refine tJ hT hr h1 cv (fun a' w' dS=>hk a' w' ?_);unfold hAdd Bx;rw[h2];exact dS
  ·cases aO
 ·rename_i c v7;split at aO
  ·rename_i f sF;split at aO
   ·rename_i r ps o0;injection aO with aO;subst aO
    have hc:um P Γ.n o (.pv r) s=some (⟨pF s.env o.dst (.pv r),s.aK⟩,[eM P f ps r]):=by unfold um;rw[v7];simp only[sF,o0,hd,cond_true]
    exact uo hr hc cv (fun a' w' h=>hk a' w' h)
   ·rename_i y d y1 off len sz y2 sc ps o0;cases hb:(Nat.beq y y1&&Nat.beq y y2&&ke sc&&zP o.dst d && !(c.args.toList.any O5)&&Nat.blt y 999999) with
    |false=>rw[hb] at aO;cases aO
    |true =>
     simp only[hb,cond_true] at aO;injection aO with aO;subst aO
     simp only[Bool.and_eq_true] at hb;obtain⟨⟨⟨⟨⟨b1,b2⟩,b3⟩,b4⟩,b5⟩,b6⟩:=hb;rw[agN] at b5;have e1:y=y1:=afB b1;have e2:y=y2:=afB b2;have e3:=zQ b4;subst e1;subst e2;have hfd:s.aK.get d=none:=by unfold qP at hf;rw[e3] at hf;simp only[Bool.and_eq_true] at hf;simpa using hf.1
     have tU:Nat.blt d 999999=true:=by unfold qP at hf;rw[e3] at hf;simp only[Bool.and_eq_true] at hf;exact hf.2
     have hyg:aT.get [(y,sc)] y=some sc:=by rw[aT.lj (afv b6),aif];rfl
     have wi:Nat.blt d Γ.n=true:=by rw[e3] at hd;exact hd
     have hc:sf P Γ.n o (.bJ [] (some (y,d)) (.row y off len sz) [(y,sc)]) s=some (⟨pF s.env o.dst (.row d off len sz),(d,sc)::s.aK⟩,[au P f (ps.map EV.pv) [] (.row y off len sz) [(y,sc)]]):=by unfold sf;rw[v7];simp only[sF,W1,RS,List.append_nil,It _ _ b5 o0,hd,nE,List.all_nil,List.all_cons,b3,b6,hyg,Nat.beq_refl,cond_true,hfd,lO,wb,wi,CU,mz,Option.map_some,zP,Option.isSome_none,Bool.false_or,Bool.and_true,Bool.false_and,givenBy,List.filter_nil,List.map_nil,fR]
     refine tK hs hr hc cv (fun a' w' h=>hk a' w' ?_);unfold hAdd Bx;simp only[e3,tU,cond_true] at h ⊢;exact h
   ·cases aO
  ·cases aO
  ·cases aO
  ·exact gen aO
 ·exact gen aO
theorem Ks(hT:oE P T)(hs:∀r,bK Γ.sin r→Γ.n≤r)(hr:Rel Γ s a w)(aO:Gp P T Γ.n ops o h s=some res)(cv:dX res.ob)
  {K:Act→World→Prop} {Q:Exit→Act→World→Prop} (hk:∀a' w',Rel Γ (hAdd s o.dst res) a' w'→K a' w') :
  if Region.wanted o (yielded ops a.tmps) then o.wp P a w K Q∨(o.asks P a w∧LetsOut Q) else K (a.put o.dst undef) w:=by
 unfold Gp at aO;cases hd:l7 Γ.n o.dst with
 |false=>simp[hd] at aO
 |true =>
  simp only[hd,cond_true] at aO;split at aO
  ·rename_i hg;have hw:Region.wanted o (yielded ops a.tmps)=true:=by simp[Region.wanted,hg]
   rw[afI hw];split at aO
   ·rename_i UL pG;cases hf:qP s o.dst UL.new with
    |false=>simp[hf] at aO
    |true =>
     simp only[hf,cond_true] at aO;injection aO with aO;subst aO
     exact .inl (Iv hT hs hr pG hf hd cv hk)
   ·cases aO
  ·rename_i j want hg;split at aO
   ·rename_i t ht;split at aO
    ·rename_i b hb;have hy:yielded ops a.tmps j=some b:=by
      obtain⟨β,I,dS⟩:=hr;have hv:Rd I w (.bool b) (a.tmps.getD t undef):=dS.env t _ hb;have HJ:a.tmps.getD t undef = .bool b:=by generalize a.tmps.getD t undef=v at hv;cases hv;rfl
      unfold yielded;rw[ht];simp only[Option.bind_some];rw[agc] at HJ;cases hx:a.tmps[t]? with
      |none=>rw[hx] at HJ;simp[undef] at HJ
      |some v=>rw[hx] at HJ;simp at HJ;subst HJ;rfl
     have hw:Region.wanted o (yielded ops a.tmps)=(b==want):=by simp only[Region.wanted,hg,hy];cases b<;>cases want<;>rfl
     split at aO
     ·injection aO with aO;subst aO
      have ZH:b = !want:=cv;rw[afG (by rw[hw,ZH];cases want<;>simp)];obtain⟨β,I,dS⟩:=hr;exact hk _ _ ⟨β,I,dS.put (fo hd) (ya _ _)⟩
     ·split at aO
      ·rename_i UL pG;cases hf:qP s o.dst UL.new with
       |false=>simp[hf] at aO
       |true =>
        simp only[hf,cond_true] at aO;injection aO with aO;subst aO
        obtain⟨g1,g2⟩:=cv.cons;rw[afI (by rw[hw,g1];simp)];exact .inl (Iv hT hs hr pG hf hd g2 hk)
      ·cases aO
    ·rename_i vs hb;split at aO
     ·injection aO with aO;subst aO
      obtain⟨β,I,dS⟩:=hr;rw[afG (by rw[CO ht (dS.env t _ hb) hg];simp)];exact hk _ _ ⟨β,I,dS.put (fo hd) (ya _ _)⟩
     ·cases aO
    ·cases aO
   ·cases aO
abbrev HR:=Nat×Oper×XR
def app(U:List Nat):List HR→St→St
 |[],s=>s
 |(i,o,res)::rs,s=>app U rs (if i∈U then s else hAdd s o.dst res)
def wX:List HR→Prop
 |[]=>True
 |(_,o,_)::rs=>(∀d,o.dst=some d→∀x∈rs,x.2.1.dst≠some d)∧wX rs
def jW(x:HR):Option Nat :=
 match x.2.2.new,x.2.1.dst with
 |some _,some d=>some d
 |_,_=>x.2.2.wr.map (·.1)
theorem CV(s:St)(dst:Option Nat)(res:XR)(t:Nat):(hAdd s dst res).env.get t=if dst=some t then some res.val else s.env.get t:=by
 cases dst with
 |none=>simp[hAdd,pF]
 |some d =>
  simp only[hAdd,pF,Env.get];cases hb:Nat.beq d t with
  |true=>have:d=t:=afB hb;subst this;simp
  |false =>
   have:d≠t:=by intro e;subst e;simp at hb
   simp[this]
theorem wY(aK:aT)(x:HR)(r:Nat)(h:jW x≠some r):(Bx aK x.2.1.dst x.2.2).get r=aK.get r:=by
 unfold jW at h;unfold Bx;split
 ·rename_i sc d hn hd;simp only[hn,hd] at h;cases tU:Nat.blt d 999999 with
  |false=>rfl
  |true =>simp only[cond_true];rw[aT.lj (afv tU),iJ (fun e=>h (by rw[e]))];rfl
 ·rename_i fT;split at h
  ·rename_i sc d hn hd;exact absurd hd (fT _ _ hn)
  ·split
   ·rename_i r' sc hw;rw[hw] at h;simp only[Option.map_some,ne_eq,Option.some.injEq] at h;rw[aT.mw,afG (fun e=>h e.1.symm)]
   ·rfl
theorem Fb(aK zK:aT)(x:HR)(r:Nat)(h:zK.get r=aK.get r):(Bx zK x.2.1.dst x.2.2).get r=(Bx aK x.2.1.dst x.2.2).get r:=by
 unfold Bx;split
 ·rename_i sc d _ _;cases tU:Nat.blt d 999999 with
  |false=>exact h
  |true =>simp only[cond_true];rw[aT.lj (afv tU),aT.lj (afv tU),h]
 ·split
  ·rw[aT.mw,aT.mw,h]
  ·exact h
theorem kC(U:List Nat)(t:Nat):∀(rs:List HR) (s:St),(∀x∈rs,x.2.1.dst=some t→x.1∈U)→(app U rs s).env.get t=s.env.get t
 |[],s,_=>rfl
 |(i,o,res)::rs,s,h=>by
  simp only[app];rw[kC U t rs _ (fun x hx=>h x (by simp[hx]))];by_cases hi:i∈U
  ·rw[afI hi]
  ·rw[afG hi,CV,afG (fun e=>hi (h (i,o,res) (by simp) e))]
theorem mB(U:List Nat)(t:Nat)(x:HR)(ht:x.2.1.dst=some t)(hu:x.1 ∉ U)(rs:List HR):∀(s:St),wX rs→x∈rs→(app U rs s).env.get t=some x.2.2.val:=by
 induction rs with
 |nil=>intro s _ hx;cases hx
 |cons y rs ih =>
  intro s hd hx;obtain⟨i,o,res⟩:=y;show(app U rs (if i∈U then s else hAdd s o.dst res)).env.get t=_;rcases afY.1 hx with hx|hx
  ·subst hx;rw[kC U t rs _ (fun y hy e=>absurd e (hd.1 t ht y hy)),afG hu,CV,afI ht]
  ·exact ih _ hd.2 hx
theorem qQ(U U':List Nat)(r:Nat):∀(rs:List HR) (s s':St),(∀y∈rs,jW y=some r→(y.1∈U↔y.1∈U'))→s'.aK.get r=s.aK.get r→(app U' rs s').aK.get r=(app U rs s).aK.get r
 |[],s,s',_,h=>h
 |(i,o,res)::rs,s,s',hU,h=>by
  simp only[app];refine qQ U U' r rs _ _ (fun y hy=>hU y (by simp[hy])) ?_;by_cases hw:jW (i,o,res)=some r
  ·have hi:=hU (i,o,res) (by simp) hw;by_cases h1:i∈U
   ·rw[afI h1,afI (hi.1 h1)];exact h
   ·rw[afG h1,afG (fun h2=>h1 (hi.2 h2))];exact Fb s.aK s'.aK (i,o,res) r h
  ·have h1:∀(b:Prop) [Decidable b] (s:St),(if b then s else hAdd s o.dst res).aK.get r=s.aK.get r:=fun b _ s=>by
    split
    ·rfl
    ·exact wY s.aK (i,o,res) r hw
   rw[h1,h1];exact h
theorem sV(U:List Nat)(r:Nat):∀(rs:List HR) (s:St),(∀y∈rs,jW y=some r→y.1∈U)→(app U rs s).aK.get r=s.aK.get r
 |[],s,_=>rfl
 |(i,o,res)::rs,s,h=>by
  simp only[app];rw[sV U r rs _ (fun y hy=>h y (by simp[hy]))];by_cases hi:i∈U
  ·rw[afI hi]
  ·rw[afG hi];exact wY s.aK (i,o,res) r (fun e=>hi (h (i,o,res) (by simp) e))
theorem wZ(U:List Nat):∀(pre post:List HR) (s:St),app U (pre++post) s=app U post (app U pre s)
 |[],_,_=>rfl
 |(i,o,res)::pre,post,s=>by simp only[List.cons_append,app];exact wZ U pre post _
theorem CW{U:List Nat}{pre post:List HR}{x:HR}{r:Nat}(s:St)(h1:∀y∈pre,jW y=some r→y.1 ∉ U)(h2:∀y∈post,jW y=some r→y.1∈U)(hx:x.1∈U) :
  (app U (pre++x::post) s).aK.get r=(app [] pre s).aK.get r:=by
 rw[wZ];obtain⟨i,o,res⟩:=x;show(app U post (if i∈U then app U pre s else hAdd (app U pre s) o.dst res)).aK.get r=_;rw[afI hx,sV U r post _ h2];exact qQ [] U r pre s s (fun y hy hw=>⟨fun h=>(by cases h),fun h=>absurd h (h1 y hy hw)⟩) rfl
theorem Nj{U U':List Nat}{rs pre post:List HR}{x:HR}(Nk:rs=pre++x::post)(hd:wX rs)(hU:∀j,j∈U'↔j∈U∧j≠x.1)(Fc:∀y∈rs,y.1=x.1→y=x)(hnp:x ∉ pre)(UM:x.1∈U)
  (LI:∀r,jW x=some r→∀y∈pre,jW y=some r→y.1 ∉ U) (Eo:∀r,jW x=some r→∀y∈post,jW y=some r→y.1∈U) (ZN:x ∉ post) (s:St) :
  RM (hAdd (app U rs s) x.2.1.dst x.2.2) (app U' rs s):=by
 have hx:x∈rs:=by rw[Nk];simp
 have zt:x.1 ∉ U':=fun h=>((hU _).1 h).2 rfl
 refine⟨fun t => ?_,fun r => ?_⟩
 ·rw[CV];by_cases ht:x.2.1.dst=some t
  ·rw[afI ht,mB U' t x ht zt rs s hd hx]
  ·rw[afG ht];by_cases hy:∃y∈rs,y.2.1.dst=some t∧y.1 ∉ U
   ·obtain⟨y,hy,WB,YQ⟩:=hy;rw[mB U t y WB YQ rs s hd hy,mB U' t y WB (fun h=>YQ ((hU _).1 h).1) rs s hd hy]
   ·have h1:∀y∈rs,y.2.1.dst=some t→y.1∈U:=fun y JS O7=>afE fun hc=>hy ⟨y,JS,O7,hc⟩
    rw[kC U t rs s h1,kC U' t rs s (fun y JS O7=>(hU _).2 ⟨h1 y JS O7,fun e=>ht (by rw[←Fc y JS e];exact O7)⟩)]
 ·by_cases hw:jW x=some r
  ·have e1:(app U' rs s).aK.get r=(Bx (app U' pre s).aK x.2.1.dst x.2.2).get r:=by
    rw[Nk,wZ];obtain⟨i,o,res⟩:=x;show(app U' post (if i∈U' then app U' pre s else hAdd (app U' pre s) o.dst res)).aK.get r=_;rw[afG zt,sV U' r post _ (fun y hy Xe=>(hU _).2 ⟨Eo r hw y hy Xe,fun e=>ZN (by rw[←Fc y (by rw[Nk];simp[hy]) e];exact hy)⟩)];rfl
   rw[e1];show _=(Bx (app U rs s).aK x.2.1.dst x.2.2).get r;refine Fb _ _ x r ?_;rw[Nk,CW s (LI r hw) (Eo r hw) UM];exact qQ [] U' r pre s s (fun y hy Xe=>⟨fun h=>(by cases h),fun h=>absurd ((hU _).1 h).1 (LI r hw y hy Xe)⟩) rfl
  ·show _=(Bx (app U rs s).aK x.2.1.dst x.2.2).get r;rw[wY _ x r hw];refine qQ U U' r rs s s (fun y hy Xe=>⟨fun h=>(hU _).2 ⟨h,fun e=>hw (by rw[←Fc y hy e];exact Xe)⟩,fun h=>((hU _).1 h).1⟩) rfl
def EH(P:Program)(T:lh)(n:Nat)(ops:Array Oper):List HR→List Hint→St→Prop
 |[],_,_=>True
 |(i,o,res)::rs,hs,s=>ops[i]? = some o∧Gp P T n ops o (hs.headD .none) s=some res∧EH P T n ops rs hs.tail (hAdd s o.dst res)
theorem Iw{env O4:Env}(x:Operand)(h:∀t,x = .tmp t→O4.get t=env.get t):dA O4 x=dA env x:=by
 cases x with
 |tmp t=>exact h t rfl
 |const v=>rfl
 |func f=>rfl
 |global g=>rfl
theorem Kt{ρ ρ':Operand→Option EV}{op:Op}(hx:∀x∈op.operands,ρ' x=ρ x):Gn ρ' op=Gn ρ op:=by
 cases op<;>try rfl
 case load t x=>simp only[Gn];rw[hx x (by simp[Op.operands])]
def zW(ρ:Operand→Option EV):Op→Option Nat
 |.load _ x=>match ρ x with
  |some (.ptr r _)=>some r
  |_=>none
 |.store _ x _=>match ρ x with
  |some (.ptr r _)=>some r
  |_=>none
 |_=>none
theorem O8{s s':St}(he:∀t,Operand.tmp t∈o.op.operands→s'.env.get t=s.env.get t)
  (hs:∀r,zW (dA s.env) o.op=some r→s'.aK.get r=s.aK.get r):hU P T o h s'=hU P T o h s:=by
 have tT:∀x∈o.op.operands,dA s'.env x=dA s.env x:=fun x hx=>Iw x (fun t ht=>he t (ht ▸ hx))
 have v7:cw T s'.aK o.dst o.op (dA s'.env) h=cw T s.aK o.dst o.op (dA s.env) h:=Is tT (fun t x r off ho hx=>hs r (by rw[ho];simp[zW,hx]));have vY:Gn (dA s'.env) o.op=Gn (dA s.env) o.op:=Kt tT;have Ts:AP (dA s'.env) o.op (cw T s'.aK o.dst o.op (dA s'.env) h)=AP (dA s.env) o.op (cw T s.aK o.dst o.op (dA s.env) h):=by rw[v7];unfold AP;rw[vY]
 unfold hU;split
 ·rename_i t x y ho;rw[EG tT (fun t x y r off ho hx=>hs r (by rw[ho];simp[zW,hx]))]
 ·rename_i c hc;rw[hc] at tT;have ZO:oH s'.env c.args.toList=oH s.env c.args.toList:=yd (fun x hx=>tT x (by simp[Op.operands,Call.operands];exact .inr (by simpa using hx)));split
  ·rw[ZO]
  ·rfl
  ·rfl
  ·exact Ts
 ·exact Ts
theorem RX(aO:hU P T o h s=some res){r:Nat}(hr:zW (dA s.env) o.op=some r):res.rd=some r∨(res.new=none∧res.wr.map (·.1)=some r):=by
 unfold hU at aO;split at aO
 ·rename_i t x y v7;right;split at aO
  ·rename_i r' sc ob YP;injection aO with aO;subst aO
   refine⟨rfl,?_⟩;rw[v7] at hr YP;unfold zW at hr;simp only at hr;split at hr
   ·rename_i q off hq;injection hr with hr;subst hr
    rw[Gm YP hq];rfl
   ·cases hr
  ·cases aO
 ·rename_i c v7;rw[v7] at hr;cases hr
 ·left;unfold AP at aO;split at aO
  ·injection aO with aO;subst aO
   show Gn (dA s.env) o.op=some r;rename_i Ie hnc _ _ _;cases ho:o.op<;>rw[ho] at hr<;>first|(cases hr;done)|skip
   ·simpa[zW,Gn] using hr
   ·rename_i t x y;exact absurd ho (Ie t x y)
  ·cases aO
end
end Go.Proofs.YtcpnocgollpbhaaGreatDoor.Sym
