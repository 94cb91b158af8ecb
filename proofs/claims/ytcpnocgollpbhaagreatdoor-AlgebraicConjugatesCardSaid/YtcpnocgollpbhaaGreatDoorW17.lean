/- Lemmas for the statements of this seat. -/
import Derived.Test.YtcpnocgollpbhaaGreatDoorW16
namespace Go.Proofs.YtcpnocgollpbhaaGreatDoor.Sym
open Go Go.RowKit
theorem qL{ρ ρ':Operand→Option EV} : ∀{l:List (Nat×Operand)},(∀x∈l.map (·.2),ρ' x=ρ x)→pP ρ' l=pP ρ l
 |[],_=>rfl
 |(i,x)::r,h=>by unfold pP;rw[h x (by simp),qL (l:=r) (fun y hy=>h y (by simp at hy ⊢;exact .inr hy))]
theorem vi{ρ ρ':Operand→Option EV} : ∀{l:List (Nat×Operand)},(∀x∈l.map (·.2),ρ' x=ρ x)→rS ρ' l=rS ρ l
 |[],_=>rfl
 |(i,x)::r,h=>by unfold rS;rw[h x (by simp),vi (l:=r) (fun y hy=>h y (by simp at hy ⊢;exact .inr hy))]
theorem HJ{T:kL}{aG yl:aS}{dst:Option Nat}{op:Op}{ρ ρ':Operand→Option EV}{h:Hint}(hx:∀x∈op.operands,ρ' x=ρ x)
  (hs:∀t x r off,op = .load t x→ρ x=some (.ptr r off)→yl.get r=aG.get r):bW T yl dst op ρ' h=bW T aG dst op ρ h:=by
 cases op<;>simp only[Op.operands] at hx<;>simp only[bW]
 case move x=>rw[hx x (by simp)]
 case assign x=>rw[hx x (by simp)]
 case pick c a b =>
  have h1:=hx c (by simp);have h2:=hx a (by simp);have h3:=hx b (by simp);have h4:∀d:Bool,ρ' (bif d then a else b)=ρ (bif d then a else b):=fun d=>by cases d<;>simp[h2,h3]
  rw[h1];simp only[h4]
 case box t x=>rw[hx x (by simp)]
 case build t ps=>rw[qL (fun x x6=>hx x (by simpa using x6)),vi (fun x x6=>hx x (by simpa using x6))]
 case buildSlice t n ps=>rw[qL (fun x x6=>hx x (by simpa using x6))]
 case load t x =>
  have h1:=hx x (by simp);rw[h1];cases T.get t with
  |none=>rfl
  |some d =>
   cases hr:ρ x with
   |none=>rfl
   |some e =>
    cases e with
    |ptr r off=>simp only[hs t x r off rfl hr]
    |_=>rfl
 case nilCheck x=>rw[hx x (by simp)]
 case binOp op t x y yt=>rw[hx x (by simp),hx y (by simp)]
 case unOp op t x=>rw[hx x (by simp)]
 case convert s t x=>rw[hx x (by simp)]
 case makeInterface t x=>rw[hx x (by simp)]
 case makeFunc fn f1 cap =>
  have h1:∀x∈cap.toList,ρ' x=ρ x:=fun x x6=>hx x (by simp only[Array.mem_append];exact .inr (by simpa using x6))
  generalize cap.toList=l at h1 ⊢;generalize f1.toList=l1;cases fn<;>cases l1<;>try rfl
  rcases l with _|⟨x,_|⟨y,l⟩⟩
  ·rfl
  ·simp only[h1 x (by simp)]
  ·rfl
 case makeSlice t x y=>rw[hx x (by simp),hx y (by simp)]
 case slice t x lo hi mx =>
  have h1:=hx x (by simp);have h2:∀d:EV,NV ρ' lo d=NV ρ lo d:=fun d=>by
   cases lo with
   |none=>rfl
   |some y=>exact hx y (by simp)
  have h3:∀d:EV,NV ρ' hi d=NV ρ hi d:=fun d=>by
   cases hi with
   |none=>rfl
   |some y=>exact hx y (by simp)
  simp only[h1,h2,h3]
 case fieldAddr t x f=>rw[hx x (by simp)]
 case field t x f=>rw[hx x (by simp)]
 case indexAddr t x y=>rw[hx x (by simp),hx y (by simp)]
 case index t x i=>rw[hx x (by simp),hx i (by simp)]
 case extract x i=>rw[hx x (by simp)]
 case typeAssert x xt t ok=>cases ok<;>simp only[hx x (by simp)]
 case call c =>
  obtain⟨cl,args,N4⟩:=c;simp only;split
  ·rename_i x t ky _;rw[hx x (by simp[Call.operands,Q6 ky])]
  ·rename_i x y ky;rw[hx x (by simp[Call.operands,Ak ky]),hx y (by simp[Call.operands,Ak ky])]
  ·rename_i x y ky;rw[hx x (by simp[Call.operands,Ak ky]),hx y (by simp[Call.operands,Ak ky])]
  ·rfl
theorem xf{env Ow:Env} : ∀{l:List Operand},(∀x∈l,dh Ow x=dh env x)→oc Ow l=oc env l
 |[],_=>rfl
 |x::r,h=>by unfold oc;rw[h x (by simp),xf (l:=r) (fun y hy=>h y (by simp[hy]))]
structure XR where
 val:EV
 new:Option SC
 wr:Option (Nat×SC)
 rd:Option Nat
 ob:List Prop
def storeAt(T:kL)(op:Op)(dst:Option Nat)(h:Hint)(ρ:Operand→Option EV)(aG:aS):Option (Nat×SC×List Prop) :=
 match op,dst with
 |.store t x y,none=>match T.get t,ρ x,ρ y with
  |some d,some (.ptr r off),some e=>match nF e,aG.get r with
   |some cs,some sc=>bif Nat.beq cs.length d.size&&Nat.blt r 999999 then
     match h with
     |.cells sc'=>some (r,sc',[off+cs.length≤sc.rI.length,eP sc.rI off cs=sc'.rI])
     |_=>match sc with
      |.lit cells=>bif Nat.ble (off+cs.length) cells.length then some (r,.lit (eP cells off cs),[]) else none
      |_=>none
    else none
   |_,_=>none
  |_,_,_=>none
 |_,_=>none
theorem Fq{T:kL}{o:Oper}{h:Hint}{s:St}{r:Nat}{sc:SC}{ob:List Prop}(aK:storeAt T o.op o.dst h (dh s.env) s.aG=some (r,sc,ob)) :
  q9 T o h s=some (⟨s.env,aS.set s.aG r sc⟩,ob)∧o.dst=none:=by
 unfold storeAt at aK;split at aK
 ·rename_i t x y uV Hy;refine⟨?_,Hy⟩;unfold q9;rw[uV,Hy];simp only;split at aK
  ·rename_i d r' off e hd hx hy;simp only[hd,hx,hy];split at aK
   ·rename_i cs KT Ag oP;simp only[Ag,oP];cases hl:(Nat.beq cs.length d.size&&Nat.blt r' 999999) with
    |false=>simp[hl] at aK
    |true =>
     simp only[hl,cond_true] at aK ⊢;split at aK
     ·injection aK with aK;injection aK with h1 h2;injection h2 with h2 h3
      subst h1;subst h2;subst h3;rfl
     ·rename_i et;split at aK
      ·rename_i cells;cases hle:Nat.ble (off+cs.length) cells.length with
       |false=>simp[hle] at aK
       |true =>
        simp only[hle,cond_true] at aK;injection aK with aK;injection aK with h1 h2;injection h2 with h2 h3
        subst h1;subst h2;subst h3;cases h<;>first|(simp only[hle,cond_true];done)|exact absurd rfl (et _)
      ·cases aK
   ·cases aK
  ·cases aK
 ·cases aK
theorem DH{T:kL}{op:Op}{dst:Option Nat}{h:Hint}{ρ ρ':Operand→Option EV}{aG yl:aS}(hx:∀x∈op.operands,ρ' x=ρ x)
  (hs:∀t x y r off,op = .store t x y→ρ x=some (.ptr r off)→yl.get r=aG.get r):storeAt T op dst h ρ' yl=storeAt T op dst h ρ aG:=by
 unfold storeAt;split
 ·rename_i t x y;simp only[Op.operands] at hx;rw[hx x (by simp),hx y (by simp)];split
  ·rename_i d r off e hd hr hy;rw[hs t x y r off rfl hr]
  ·rfl
 ·rfl
theorem Fs{T:kL}{t:TypeId}{x y:Operand}{dst:Option Nat}{h:Hint}{ρ:Operand→Option EV}{aG:aS}{r r' off:Nat}{sc:SC}{ob:List Prop}
  (aK:storeAt T (.store t x y) dst h ρ aG=some (r',sc,ob)) (hx:ρ x=some (.ptr r off)):r'=r:=by
 unfold storeAt at aK;cases dst with
 |some d=>cases aK
 |none =>
  simp only[hx] at aK;cases hd:T.get t with
  |none=>simp[hd] at aK
  |some d =>
   simp only[hd] at aK;cases hy:ρ y with
   |none=>simp[hy] at aK
   |some e =>
    simp only[hy] at aK;split at aK
    ·rename_i cs KT Ag oP;cases hl:(Nat.beq cs.length d.size&&Nat.blt r 999999) with
     |false=>simp[hl] at aK
     |true =>
      simp only[hl,cond_true] at aK;split at aK
      ·injection aK with aK;injection aK with h1 h2;exact h1.symm
      ·split at aK
       ·rename_i cells;cases hle:Nat.ble (off+cs.length) cells.length with
        |false=>simp[hle] at aK
        |true =>simp only[hle,cond_true] at aK;injection aK with aK;injection aK with h1 h2;exact h1.symm
       ·cases aK
    ·cases aK
def Ft(ρ:Operand→Option EV):Op→Option Nat
 |.load _ x=>match ρ x with
  |some (.ptr r _)=>some r
  |_=>none
 |_=>none
def zy(ρ:Operand→Option EV)(op:Op):Option oq→Option XR
 |some res=>some ⟨res.val,res.new,none,Ft ρ op,res.ob⟩
 |none=>none
theorem BE(sout:aS):∀aG:aS,mb [] sout aG=aG
 |[]=>rfl
 |(x,sc)::aG=>by simp only[mb,assoc,BE sout aG,Bool.cond_self]
def Ox:Operand→Bool
 |.const (.slice none 0 0)=>true
 |_=>false
theorem Oy{env:Env}{x:Operand}(h:Ox x=false):HF true env x=dh env x:=by
 unfold HF;split
 ·rw[Ox] at h;cases h
 ·rfl
theorem HK(env:Env):∀(l:List Operand) {ps:List PV},l.any Ox=false→oc env l=some ps→Ee true env (assoc []) l=some (ps.map EV.pv)
 |[],ps,_,h=>by injection h with h;subst h;rfl
 |x::l,ps,hn,h=>by
  rw[List.any_cons,Bool.or_eq_false_iff] at hn;unfold oc at h;split at h
  ·rename_i p qs hx hq;injection h with h;subst h
   unfold Ee;rw[Oy hn.1,hx,HK env l hn.2 hq];rfl
  ·cases h
def hU(P:Program)(T:kL)(o:Oper)(h:Hint)(s:St):Option XR :=
 match o.op with
 |.store _ _ _=>match storeAt T o.op o.dst h (dh s.env) s.aG with
  |some (r,sc,ob)=>some ⟨.dead,none,some (r,sc),none,ob⟩
  |none=>none
 |.call c=>match c.callee with
  |.value (.func f)=>match h,oc s.env c.args.toList with
   |.pv r,some ps=>some ⟨.pv r,none,none,none,[eu P f ps r]⟩
   |.bG [] (some (y,d)) (.row y1 off len sz) [(y2,sc)],some ps=>bif Nat.beq y y1&&Nat.beq y y2&&jO sc&&yr o.dst d && !(c.args.toList.any Ox)&&Nat.blt y 999999 then
     some ⟨.row d off len sz,some sc,none,none,[au P f (ps.map EV.pv) [] (.row y off len sz) [(y,sc)]]⟩ else none
   |_,_=>none
  |.builtin .append=>none
  |.builtin .copy=>none
  |_=>zy (dh s.env) o.op (bW T s.aG o.dst o.op (dh s.env) h)
 |_=>zy (dh s.env) o.op (bW T s.aG o.dst o.op (dh s.env) h)
def pV(s:St)(dst:Option Nat):Option SC→Bool
 |none=>true
 |some _=>match dst with
  |none=>false
  |some d=>(s.aG.get d).isNone&&Nat.blt d 999999
def Fu(P:Program)(T:kL)(n:Nat)(ops:Array Oper)(o:Oper)(h:Hint)(s:St):Option XR :=
 bif lK n o.dst then
  match o.guard with
  |none=>match hU P T o h s with
   |some res=>bif pV s o.dst res.new then some res else none
   |none=>none
  |some (j,want)=>match (ops[j]?).bind (·.dst) with
   |some t=>match s.env.get t with
    |some (.pv (.bool b))=>match h with
     |.skip=>some ⟨.pv (.aF []),none,none,none,[b = !want]⟩
     |h=>match hU P T o h s with
      |some res=>bif pV s o.dst res.new then some ⟨res.val,res.new,res.wr,res.rd,(b=want)::res.ob⟩ else none
      |none=>none
    |some (.pv (.aF _))=>match h with
     |.skip=>some ⟨.pv (.aF []),none,none,none,[]⟩
     |_=>none
    |_=>none
   |none=>none
 else none
def Am(aG:aS)(dst:Option Nat)(res:XR):aS :=
 match res.new,dst with
  |some sc,some d=>bif Nat.blt d 999999 then (d,sc)::aG else aG
  |_,_=>match res.wr with
   |some (r,sc)=>aS.set aG r sc
   |none=>aG
def hAdd(s:St)(dst:Option Nat)(res:XR):St:=⟨oY s.env dst res.val,Am s.aG dst res⟩
section
variable {P:Program} {T:kL} {Γ:Ctx} {s s':St} {a:Act} {w:World} {β:Nat→Option Nat} {I:Nat→Prop} {o:Oper} {h:Hint} {ob:List Prop} {res:XR} {ops:Array Oper}
theorem HL{r0:oq}{rd:Option Nat}(hf:pV s o.dst r0.new=true):yj s o.dst r0=some (hAdd s o.dst ⟨r0.val,r0.new,none,rd,r0.ob⟩,r0.ob):=by
 obtain⟨val,new,ob⟩:=r0;unfold yj hAdd Am;cases new with
 |none=>rfl
 |some sc =>
  unfold pV at hf;simp only;cases hd:o.dst with
  |none=>rw[hd] at hf;cases hf
  |some d =>
   rw[hd] at hf;simp only at hf ⊢;rw[afX] at hf;cases hg:s.aG.get d with
   |none=>simp only[hf.2,cond_true]
   |some _=>rw[hg] at hf;cases hf.1
theorem HM(hT:n8 P T)(hs:∀r,bB Γ.sin r→Γ.n≤r)(hr:Rel Γ s a w)(aK:hU P T o h s=some res)(hf:pV s o.dst res.new=true)(hd:lK Γ.n o.dst=true)(bT:dK res.ob)
  {K:Act→World→Prop} {Q:Exit→Act→World→Prop} (hk:∀a' w',Rel Γ (hAdd s o.dst res) a' w'→K a' w'):o.wp P a w K Q:=by
 have gen:zy (dh s.env) o.op (bW T s.aG o.dst o.op (dh s.env) h)=some res→o.wp P a w K Q:=by
  intro ar;unfold zy at ar;split at ar
  ·rename_i r0 WR;injection ar with ar;subst ar
   obtain⟨β,I,hr⟩:=hr;obtain⟨v,w',hex,Bg⟩:=zl hT hr.pre WR bT;have:=(Hv hs hr hd Bg (HL (rd:=Ft (dh s.env) o.op) hf)).1;unfold Oper.wp;rw[hex];exact hk _ _ this
  ·cases ar
 unfold hU at aK;split at aK
 ·rename_i t x y uV;split at aK
  ·rename_i r sc ob YI;injection aK with aK;subst aK
   obtain⟨h1,h2⟩:=Fq YI;refine sR hT hr h1 bT (fun a' w' dI=>hk a' w' ?_);unfold hAdd Am;rw[h2];exact dI
  ·cases aK
 ·rename_i c uV;split at aK
  ·rename_i f rH;split at aK
   ·rename_i r ps oz;injection aK with aK;subst aK
    have hc:tz P Γ.n o (.pv r) s=some (⟨oY s.env o.dst (.pv r),s.aG⟩,[eu P f ps r]):=by unfold tz;rw[uV];simp only[rH,oz,hd,cond_true]
    exact tA hr hc bT (fun a' w' h=>hk a' w' h)
   ·rename_i y d y1 off len sz y2 sc ps oz;cases hb:(Nat.beq y y1&&Nat.beq y y2&&jO sc&&yr o.dst d && !(c.args.toList.any Ox)&&Nat.blt y 999999) with
    |false=>rw[hb] at aK;cases aK
    |true =>
     simp only[hb,cond_true] at aK;injection aK with aK;subst aK
     simp only[Bool.and_eq_true] at hb;obtain⟨⟨⟨⟨⟨b1,b2⟩,b3⟩,b4⟩,b5⟩,b6⟩:=hb;rw[ahd] at b5;have e1:y=y1:=ag0 b1;have e2:y=y2:=ag0 b2;have e3:=yu b4;subst e1;subst e2;have hfd:s.aG.get d=none:=by unfold pV at hf;rw[e3] at hf;simp only[Bool.and_eq_true] at hf;simpa using hf.1
     have s8:Nat.blt d 999999=true:=by unfold pV at hf;rw[e3] at hf;simp only[Bool.and_eq_true] at hf;exact hf.2
     have hyg:aS.get [(y,sc)] y=some sc:=by rw[aS.kM (afS b6),aiD];rfl
     have vf:Nat.blt d Γ.n=true:=by rw[e3] at hd;exact hd
     have hc:rb P Γ.n o (.bG [] (some (y,d)) (.row y off len sz) [(y,sc)]) s=some (⟨oY s.env o.dst (.row d off len sz),(d,sc)::s.aG⟩,[au P f (ps.map EV.pv) [] (.row y off len sz) [(y,sc)]]):=by unfold rb;rw[uV];simp only[rH,WE,Ri,List.append_nil,HK _ _ b5 oz,hd,mY,List.all_nil,List.all_cons,b3,b6,hyg,Nat.beq_refl,cond_true,hfd,lh,uY,vf,BE,ma,Option.map_some,yr,Option.isSome_none,Bool.false_or,Bool.and_true,Bool.false_and,givenBy,List.filter_nil,List.map_nil,fG]
     refine sS hs hr hc bT (fun a' w' h=>hk a' w' ?_);unfold hAdd Am;simp only[e3,s8,cond_true] at h ⊢;exact h
   ·cases aK
  ·cases aK
  ·cases aK
  ·exact gen aK
 ·exact gen aK
theorem JJ(hT:n8 P T)(hs:∀r,bB Γ.sin r→Γ.n≤r)(hr:Rel Γ s a w)(aK:Fu P T Γ.n ops o h s=some res)(bT:dK res.ob)
  {K:Act→World→Prop} {Q:Exit→Act→World→Prop} (hk:∀a' w',Rel Γ (hAdd s o.dst res) a' w'→K a' w') :
  if Region.wanted o (yielded ops a.tmps) then o.wp P a w K Q∨(o.asks P a w∧LetsOut Q) else K (a.put o.dst undef) w:=by
 unfold Fu at aK;cases hd:lK Γ.n o.dst with
 |false=>simp[hd] at aK
 |true =>
  simp only[hd,cond_true] at aK;split at aK
  ·rename_i hg;have hw:Region.wanted o (yielded ops a.tmps)=true:=by simp[Region.wanted,hg]
   rw[ag9 hw];split at aK
   ·rename_i Uf oZ;cases hf:pV s o.dst Uf.new with
    |false=>simp[hf] at aK
    |true =>
     simp only[hf,cond_true] at aK;injection aK with aK;subst aK
     exact .inl (HM hT hs hr oZ hf hd bT hk)
   ·cases aK
  ·rename_i j want hg;split at aK
   ·rename_i t ht;split at aK
    ·rename_i b hb;have hy:yielded ops a.tmps j=some b:=by
      obtain⟨β,I,dI⟩:=hr;have hv:Rd I w (.bool b) (a.tmps.getD t undef):=dI.env t _ hb;have G8:a.tmps.getD t undef = .bool b:=by generalize a.tmps.getD t undef=v at hv;cases hv;rfl
      unfold yielded;rw[ht];simp only[Option.bind_some];rw[agE] at G8;cases hx:a.tmps[t]? with
      |none=>rw[hx] at G8;simp[undef] at G8
      |some v=>rw[hx] at G8;simp at G8;subst G8;rfl
     have hw:Region.wanted o (yielded ops a.tmps)=(b==want):=by simp only[Region.wanted,hg,hy];cases b<;>cases want<;>rfl
     split at aK
     ·injection aK with aK;subst aK
      have ZF:b = !want:=bT;rw[ag7 (by rw[hw,ZF];cases want<;>simp)];obtain⟨β,I,dI⟩:=hr;exact hk _ _ ⟨β,I,dI.put (fc hd) (xc _ _)⟩
     ·split at aK
      ·rename_i Uf oZ;cases hf:pV s o.dst Uf.new with
       |false=>simp[hf] at aK
       |true =>
        simp only[hf,cond_true] at aK;injection aK with aK;subst aK
        obtain⟨g1,g2⟩:=bT.cons;rw[ag9 (by rw[hw,g1];simp)];exact .inl (HM hT hs hr oZ hf hd g2 hk)
      ·cases aK
    ·rename_i vs hb;split at aK
     ·injection aK with aK;subst aK
      obtain⟨β,I,dI⟩:=hr;rw[ag7 (by rw[By ht (dI.env t _ hb) hg];simp)];exact hk _ _ ⟨β,I,dI.put (fc hd) (xc _ _)⟩
     ·cases aK
    ·cases aK
   ·cases aK
abbrev HR:=Nat×Oper×XR
def app(U:List Nat):List HR→St→St
 |[],s=>s
 |(i,o,res)::rs,s=>app U rs (if i∈U then s else hAdd s o.dst res)
def vK:List HR→Prop
 |[]=>True
 |(_,o,_)::rs=>(∀d,o.dst=some d→∀x∈rs,x.2.1.dst≠some d)∧vK rs
def jF(x:HR):Option Nat :=
 match x.2.2.new,x.2.1.dst with
 |some _,some d=>some d
 |_,_=>x.2.2.wr.map (·.1)
theorem BF(s:St)(dst:Option Nat)(res:XR)(t:Nat):(hAdd s dst res).env.get t=if dst=some t then some res.val else s.env.get t:=by
 cases dst with
 |none=>simp[hAdd,oY]
 |some d =>
  simp only[hAdd,oY,Env.get];cases hb:Nat.beq d t with
  |true=>have:d=t:=ag0 hb;subst this;simp
  |false =>
   have:d≠t:=by intro e;subst e;simp at hb
   simp[this]
theorem vL(aG:aS)(x:HR)(r:Nat)(h:jF x≠some r):(Am aG x.2.1.dst x.2.2).get r=aG.get r:=by
 unfold jF at h;unfold Am;split
 ·rename_i sc d hn hd;simp only[hn,hd] at h;cases s8:Nat.blt d 999999 with
  |false=>rfl
  |true =>simp only[cond_true];rw[aS.kM (afS s8),ig (fun e=>h (by rw[e]))];rfl
 ·rename_i et;split at h
  ·rename_i sc d hn hd;exact absurd hd (et _ _ hn)
  ·split
   ·rename_i r' sc hw;rw[hw] at h;simp only[Option.map_some,ne_eq,Option.some.injEq] at h;rw[aS.l8,ag7 (fun e=>h e.1.symm)]
   ·rfl
theorem Eg(aG yl:aS)(x:HR)(r:Nat)(h:yl.get r=aG.get r):(Am yl x.2.1.dst x.2.2).get r=(Am aG x.2.1.dst x.2.2).get r:=by
 unfold Am;split
 ·rename_i sc d _ _;cases s8:Nat.blt d 999999 with
  |false=>exact h
  |true =>simp only[cond_true];rw[aS.kM (afS s8),aS.kM (afS s8),h]
 ·split
  ·rw[aS.l8,aS.l8,h]
  ·exact h
theorem kd(U:List Nat)(t:Nat):∀(rs:List HR) (s:St),(∀x∈rs,x.2.1.dst=some t→x.1∈U)→(app U rs s).env.get t=s.env.get t
 |[],s,_=>rfl
 |(i,o,res)::rs,s,h=>by
  simp only[app];rw[kd U t rs _ (fun x hx=>h x (by simp[hx]))];by_cases hi:i∈U
  ·rw[ag9 hi]
  ·rw[ag7 hi,BF,ag7 (fun e=>hi (h (i,o,res) (by simp) e))]
theorem mc(U:List Nat)(t:Nat)(x:HR)(ht:x.2.1.dst=some t)(hu:x.1 ∉ U)(rs:List HR):∀(s:St),vK rs→x∈rs→(app U rs s).env.get t=some x.2.2.val:=by
 induction rs with
 |nil=>intro s _ hx;cases hx
 |cons y rs ih =>
  intro s hd hx;obtain⟨i,o,res⟩:=y;show(app U rs (if i∈U then s else hAdd s o.dst res)).env.get t=_;rcases agp.1 hx with hx|hx
  ·subst hx;rw[kd U t rs _ (fun y hy e=>absurd e (hd.1 t ht y hy)),ag7 hu,BF,ag9 ht]
  ·exact ih _ hd.2 hx
theorem pX(U U':List Nat)(r:Nat):∀(rs:List HR) (s s':St),(∀y∈rs,jF y=some r→(y.1∈U↔y.1∈U'))→s'.aG.get r=s.aG.get r→(app U' rs s').aG.get r=(app U rs s).aG.get r
 |[],s,s',_,h=>h
 |(i,o,res)::rs,s,s',hU,h=>by
  simp only[app];refine pX U U' r rs _ _ (fun y hy=>hU y (by simp[hy])) ?_;by_cases hw:jF (i,o,res)=some r
  ·have hi:=hU (i,o,res) (by simp) hw;by_cases h1:i∈U
   ·rw[ag9 h1,ag9 (hi.1 h1)];exact h
   ·rw[ag7 h1,ag7 (fun h2=>h1 (hi.2 h2))];exact Eg s.aG s'.aG (i,o,res) r h
  ·have h1:∀(b:Prop) [Decidable b] (s:St),(if b then s else hAdd s o.dst res).aG.get r=s.aG.get r:=fun b _ s=>by
    split
    ·rfl
    ·exact vL s.aG (i,o,res) r hw
   rw[h1,h1];exact h
theorem r7(U:List Nat)(r:Nat):∀(rs:List HR) (s:St),(∀y∈rs,jF y=some r→y.1∈U)→(app U rs s).aG.get r=s.aG.get r
 |[],s,_=>rfl
 |(i,o,res)::rs,s,h=>by
  simp only[app];rw[r7 U r rs _ (fun y hy=>h y (by simp[hy]))];by_cases hi:i∈U
  ·rw[ag9 hi]
  ·rw[ag7 hi];exact vL s.aG (i,o,res) r (fun e=>hi (h (i,o,res) (by simp) e))
theorem vM(U:List Nat):∀(pre post:List HR) (s:St),app U (pre++post) s=app U post (app U pre s)
 |[],_,_=>rfl
 |(i,o,res)::pre,post,s=>by simp only[List.cons_append,app];exact vM U pre post _
theorem BG{U:List Nat}{pre post:List HR}{x:HR}{r:Nat}(s:St)(h1:∀y∈pre,jF y=some r→y.1 ∉ U)(h2:∀y∈post,jF y=some r→y.1∈U)(hx:x.1∈U) :
  (app U (pre++x::post) s).aG.get r=(app [] pre s).aG.get r:=by
 rw[vM];obtain⟨i,o,res⟩:=x;show(app U post (if i∈U then app U pre s else hAdd (app U pre s) o.dst res)).aG.get r=_;rw[ag9 hx,r7 U r post _ h2];exact pX [] U r pre s s (fun y hy hw=>⟨fun h=>(by cases h),fun h=>absurd h (h1 y hy hw)⟩) rfl
theorem ME{U U':List Nat}{rs pre post:List HR}{x:HR}(MF:rs=pre++x::post)(hd:vK rs)(hU:∀j,j∈U'↔j∈U∧j≠x.1)(Eh:∀y∈rs,y.1=x.1→y=x)(hnp:x ∉ pre)(Ug:x.1∈U)
  (KY:∀r,jF x=some r→∀y∈pre,jF y=some r→y.1 ∉ U) (BH:∀r,jF x=some r→∀y∈post,jF y=some r→y.1∈U) (ZM:x ∉ post) (s:St) :
  Ra (hAdd (app U rs s) x.2.1.dst x.2.2) (app U' rs s):=by
 have hx:x∈rs:=by rw[MF];simp
 have x6:x.1 ∉ U':=fun h=>((hU _).1 h).2 rfl
 refine⟨fun t => ?_,fun r => ?_⟩
 ·rw[BF];by_cases ht:x.2.1.dst=some t
  ·rw[ag9 ht,mc U' t x ht x6 rs s hd hx]
  ·rw[ag7 ht];by_cases hy:∃y∈rs,y.2.1.dst=some t∧y.1 ∉ U
   ·obtain⟨y,hy,Wc,YJ⟩:=hy;rw[mc U t y Wc YJ rs s hd hy,mc U' t y Wc (fun h=>YJ ((hU _).1 h).1) rs s hd hy]
   ·have h1:∀y∈rs,y.2.1.dst=some t→y.1∈U:=fun y Jc Oz=>afV fun hc=>hy ⟨y,Jc,Oz,hc⟩
    rw[kd U t rs s h1,kd U' t rs s (fun y Jc Oz=>(hU _).2 ⟨h1 y Jc Oz,fun e=>ht (by rw[←Eh y Jc e];exact Oz)⟩)]
 ·by_cases hw:jF x=some r
  ·have e1:(app U' rs s).aG.get r=(Am (app U' pre s).aG x.2.1.dst x.2.2).get r:=by
    rw[MF,vM];obtain⟨i,o,res⟩:=x;show(app U' post (if i∈U' then app U' pre s else hAdd (app U' pre s) o.dst res)).aG.get r=_;rw[ag7 x6,r7 U' r post _ (fun y hy WS=>(hU _).2 ⟨BH r hw y hy WS,fun e=>ZM (by rw[←Eh y (by rw[MF];simp[hy]) e];exact hy)⟩)];rfl
   rw[e1];show _=(Am (app U rs s).aG x.2.1.dst x.2.2).get r;refine Eg _ _ x r ?_;rw[MF,BG s (KY r hw) (BH r hw) Ug];exact pX [] U' r pre s s (fun y hy WS=>⟨fun h=>(by cases h),fun h=>absurd ((hU _).1 h).1 (KY r hw y hy WS)⟩) rfl
  ·show _=(Am (app U rs s).aG x.2.1.dst x.2.2).get r;rw[vL _ x r hw];refine pX U U' r rs s s (fun y hy WS=>⟨fun h=>(hU _).2 ⟨h,fun e=>hw (by rw[←Eh y hy e];exact WS)⟩,fun h=>((hU _).1 h).1⟩) rfl
def DI(P:Program)(T:kL)(n:Nat)(ops:Array Oper):List HR→List Hint→St→Prop
 |[],_,_=>True
 |(i,o,res)::rs,hs,s=>ops[i]? = some o∧Fu P T n ops o (hs.headD .none) s=some res∧DI P T n ops rs hs.tail (hAdd s o.dst res)
theorem HN{env Ow:Env}(x:Operand)(h:∀t,x = .tmp t→Ow.get t=env.get t):dh Ow x=dh env x:=by
 cases x with
 |tmp t=>exact h t rfl
 |const v=>rfl
 |func f=>rfl
 |global g=>rfl
theorem JK{ρ ρ':Operand→Option EV}{op:Op}(hx:∀x∈op.operands,ρ' x=ρ x):Ft ρ' op=Ft ρ op:=by
 cases op<;>try rfl
 case load t x=>simp only[Ft];rw[hx x (by simp[Op.operands])]
def yA(ρ:Operand→Option EV):Op→Option Nat
 |.load _ x=>match ρ x with
  |some (.ptr r _)=>some r
  |_=>none
 |.store _ x _=>match ρ x with
  |some (.ptr r _)=>some r
  |_=>none
 |_=>none
theorem OA{s s':St}(he:∀t,Operand.tmp t∈o.op.operands→s'.env.get t=s.env.get t)
  (hs:∀r,yA (dh s.env) o.op=some r→s'.aG.get r=s.aG.get r):hU P T o h s'=hU P T o h s:=by
 have u7:∀x∈o.op.operands,dh s'.env x=dh s.env x:=fun x hx=>HN x (fun t ht=>he t (ht ▸ hx))
 have uV:bW T s'.aG o.dst o.op (dh s'.env) h=bW T s.aG o.dst o.op (dh s.env) h:=HJ u7 (fun t x r off ho hx=>hs r (by rw[ho];simp[yA,hx]));have uT:Ft (dh s'.env) o.op=Ft (dh s.env) o.op:=JK u7;have SX:zy (dh s'.env) o.op (bW T s'.aG o.dst o.op (dh s'.env) h)=zy (dh s.env) o.op (bW T s.aG o.dst o.op (dh s.env) h):=by rw[uV];unfold zy;rw[uT]
 unfold hU;split
 ·rename_i t x y ho;rw[DH u7 (fun t x y r off ho hx=>hs r (by rw[ho];simp[yA,hx]))]
 ·rename_i c hc;rw[hc] at u7;have ZN:oc s'.env c.args.toList=oc s.env c.args.toList:=xf (fun x hx=>u7 x (by simp[Op.operands,Call.operands];exact .inr (by simpa using hx)));split
  ·rw[ZN]
  ·rfl
  ·rfl
  ·exact SX
 ·exact SX
theorem Rm(aK:hU P T o h s=some res){r:Nat}(hr:yA (dh s.env) o.op=some r):res.rd=some r∨(res.new=none∧res.wr.map (·.1)=some r):=by
 unfold hU at aK;split at aK
 ·rename_i t x y uV;right;split at aK
  ·rename_i r' sc ob YI;injection aK with aK;subst aK
   refine⟨rfl,?_⟩;rw[uV] at hr YI;unfold yA at hr;simp only at hr;split at hr
   ·rename_i q off hq;injection hr with hr;subst hr
    rw[Fs YI hq];rfl
   ·cases hr
  ·cases aK
 ·rename_i c uV;rw[uV] at hr;cases hr
 ·left;unfold zy at aK;split at aK
  ·injection aK with aK;subst aK
   show Ft (dh s.env) o.op=some r;rename_i Hw hnc _ _ _;cases ho:o.op<;>rw[ho] at hr<;>first|(cases hr;done)|skip
   ·simpa[yA,Ft] using hr
   ·rename_i t x y;exact absurd ho (Hw t x y)
  ·cases aK
end
end Go.Proofs.YtcpnocgollpbhaaGreatDoor.Sym
