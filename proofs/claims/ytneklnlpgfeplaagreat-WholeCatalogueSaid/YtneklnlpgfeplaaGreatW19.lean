/- Lemmas for the statements of this seat. -/
import Derived.Test.YtneklnlpgfeplaaGreatW18
namespace Go.Proofs.YtneklnlpgfeplaaGreat.Sym
open Go Go.RowKit
theorem qj{ρ ρ':Operand→Option EV} : ∀{l:List (Nat×Operand)},(∀x∈l.map (·.2),ρ' x=ρ x)→pG ρ' l=pG ρ l
 |[],_=>rfl
 |(i,x)::r,h=>by unfold pG;rw[h x (by simp),qj (l:=r) (fun y hy=>h y (by simp at hy ⊢;exact .inr hy))]
theorem uK{ρ ρ':Operand→Option EV} : ∀{l:List (Nat×Operand)},(∀x∈l.map (·.2),ρ' x=ρ x)→ra ρ' l=ra ρ l
 |[],_=>rfl
 |(i,x)::r,h=>by unfold ra;rw[h x (by simp),uK (l:=r) (fun y hy=>h y (by simp at hy ⊢;exact .inr hy))]
theorem rp{ρ ρ':Operand→Option EV} : ∀{l:List Operand},(∀x∈l,ρ' x=ρ x)→q8 ρ' l=q8 ρ l
 |[],_=>rfl
 |x::r,h=>by rw[q8,q8,h x (by simp),rp (l:=r) (fun y hy=>h y (by simp[hy]))]
theorem EY{T:ja}{aP xv:aY}{dst:Option Nat}{op:Op}{ρ ρ':Operand→Option EV}{h:Hint}(hx:∀x∈op.operands,ρ' x=ρ x)
  (hs:∀t x r off,op = .load t x→ρ x=some (.ptr r off)→xv.get r=aP.get r):cI T xv dst op ρ' h=cI T aP dst op ρ h:=by
 cases op<;>simp only[Op.operands] at hx<;>simp only[cI]
 case move x=>rw[hx x (by simp)]
 case assign x=>rw[hx x (by simp)]
 case pick c a b =>
  have h1:=hx c (by simp);have h2:=hx a (by simp);have h3:=hx b (by simp);have h4:∀d:Bool,ρ' (bif d then a else b)=ρ (bif d then a else b):=fun d=>by cases d<;>simp[h2,h3]
  rw[h1];simp only[h4]
 case box t x=>rw[hx x (by simp)]
 case build t ps=>rw[qj (fun x uJ=>hx x (by simpa using uJ)),uK (fun x uJ=>hx x (by simpa using uJ))]
 case buildSlice t n ps=>rw[qj (fun x uJ=>hx x (by simpa using uJ))]
 case load t x =>
  have h1:=hx x (by simp);rw[h1];cases T.get t with
  |none=>rfl
  |some d =>
   cases hr:ρ x with
   |none=>rfl
   |some e =>
    cases e with
    |ptr r off=>simp only[hs t x r off rfl hr]
    |_=>rfl
 case nilCheck x=>rw[hx x (by simp)]
 case binOp op t x y yt=>rw[hx x (by simp),hx y (by simp)]
 case unOp op t x=>rw[hx x (by simp)]
 case convert s t x=>rw[hx x (by simp)]
 case makeInterface t x=>rw[hx x (by simp)]
 case makeFunc fn f1 cap =>
  have h1:∀x∈cap.toList,ρ' x=ρ x:=fun x uJ=>hx x (by simp only[Array.mem_append];exact .inr (by simpa using uJ))
  have h2:∀x∈f1.toList,ρ' x=ρ x:=fun x uJ=>hx x (by simp only[Array.mem_append];exact .inl (by simpa using uJ))
  generalize cap.toList=l at h1 ⊢;generalize f1.toList=l1 at h2 ⊢;have e1:=rp h1;have e2:=rp h2;cases fn<;>try rfl
  rcases l1 with _|⟨z,l1⟩<;>rcases l with _|⟨x,_|⟨y,l⟩⟩
  ·rfl
  ·simp only[h1 x (by simp)]
  ·dsimp only;rw[e1,e2]
  ·dsimp only;rw[e1,e2]
  ·dsimp only;rw[e1,e2]
  ·dsimp only;rw[e1,e2]
 case makeSlice t x y=>rw[hx x (by simp),hx y (by simp)]
 case slice t x lo hi mx =>
  have h1:=hx x (by simp);have h2:∀d:EV,JR ρ' lo d=JR ρ lo d:=fun d=>by
   cases lo with
   |none=>rfl
   |some y=>exact hx y (by simp)
  have h3:∀d:EV,JR ρ' hi d=JR ρ hi d:=fun d=>by
   cases hi with
   |none=>rfl
   |some y=>exact hx y (by simp)
  simp only[h1,h2,h3]
 case fieldAddr t x f=>rw[hx x (by simp)]
 case field t x f=>rw[hx x (by simp)]
 case indexAddr t x y=>rw[hx x (by simp),hx y (by simp)]
 case index t x i=>rw[hx x (by simp),hx i (by simp)]
 case extract x i=>rw[hx x (by simp)]
 case typeAssert x xt t ok=>cases ok<;>simp only[hx x (by simp)]
 case call c =>
  obtain⟨cl,args,FZ⟩:=c;simp only;split
  ·rename_i x t il _;rw[hx x (by simp[Call.operands,ML il])]
  ·rename_i x y il;rw[hx x (by simp[Call.operands,yX il]),hx y (by simp[Call.operands,yX il])]
  ·rename_i x y il;rw[hx x (by simp[Call.operands,yX il]),hx y (by simp[Call.operands,yX il])]
  ·rfl
theorem rq{env B9:Env} : ∀{l:List Operand},(∀x∈l,cU B9 x=cU env x)→jD B9 l=jD env l
 |[],_=>rfl
 |x::r,h=>by unfold jD;rw[h x (by simp),rq (l:=r) (fun y hy=>h y (by simp[hy]))]
structure XR where
 val:EV
 new:Option SC
 wr:Option (Nat×SC)
 rd:Option Nat
 ob:List Prop
def storeAt(T:ja)(op:Op)(dst:Option Nat)(h:Hint)(ρ:Operand→Option EV)(aP:aY):Option (Nat×SC×List Prop) :=
 match op,dst with
 |.store t x y,none=>match T.get t,ρ x,ρ y with
  |some d,some (.ptr r off),some e=>match mW e,aP.get r with
   |some cs,some sc=>bif Nat.beq cs.length d.size&&Nat.blt r 999999 then
     match h with
     |.cells sc'=>some (r,sc',[off+cs.length≤sc.oe.length,dB sc.oe off cs=sc'.oe])
     |_=>match sc with
      |.lit cells=>bif Nat.ble (off+cs.length) cells.length then some (r,.lit (dB cells off cs),[]) else none
      |_=>none
    else none
   |_,_=>none
  |_,_,_=>none
 |_,_=>none
theorem DD{T:ja}{o:Oper}{h:Hint}{s:St}{r:Nat}{sc:SC}{ob:List Prop}(bc:storeAt T o.op o.dst h (cU s.env) s.aP=some (r,sc,ob)) :
  qB T o h s=some (⟨s.env,aY.set s.aP r sc⟩,ob)∧o.dst=none:=by
 unfold storeAt at bc;split at bc
 ·rename_i t x y pB EM;refine⟨?_,EM⟩;unfold qB;rw[pB,EM];simp only;split at bc
  ·rename_i d r' off e hd hx hy;simp only[hd,hx,hy];split at bc
   ·rename_i cs sH vO gS;simp only[vO,gS];cases hl:(Nat.beq cs.length d.size&&Nat.blt r' 999999) with
    |false=>simp[hl] at bc
    |true =>
     simp only[hl,cond_true] at bc ⊢;split at bc
     ·injection bc with bc;injection bc with h1 h2;injection h2 with h2 h3
      subst h1;subst h2;subst h3;rfl
     ·rename_i nZ;split at bc
      ·rename_i cells;cases hle:Nat.ble (off+cs.length) cells.length with
       |false=>simp[hle] at bc
       |true =>
        simp only[hle,cond_true] at bc;injection bc with bc;injection bc with h1 h2;injection h2 with h2 h3
        subst h1;subst h2;subst h3;cases h<;>first|(simp only[hle,cond_true];done)|exact absurd rfl (nZ _)
      ·cases bc
   ·cases bc
  ·cases bc
 ·cases bc
theorem Ca{T:ja}{op:Op}{dst:Option Nat}{h:Hint}{ρ ρ':Operand→Option EV}{aP xv:aY}(hx:∀x∈op.operands,ρ' x=ρ x)
  (hs:∀t x y r off,op = .store t x y→ρ x=some (.ptr r off)→xv.get r=aP.get r):storeAt T op dst h ρ' xv=storeAt T op dst h ρ aP:=by
 unfold storeAt;split
 ·rename_i t x y;simp only[Op.operands] at hx;rw[hx x (by simp),hx y (by simp)];split
  ·rename_i d r off e hd hr hy;rw[hs t x y r off rfl hr]
  ·rfl
 ·rfl
theorem DE{T:ja}{t:TypeId}{x y:Operand}{dst:Option Nat}{h:Hint}{ρ:Operand→Option EV}{aP:aY}{r r' off:Nat}{sc:SC}{ob:List Prop}
  (bc:storeAt T (.store t x y) dst h ρ aP=some (r',sc,ob)) (hx:ρ x=some (.ptr r off)):r'=r:=by
 unfold storeAt at bc;cases dst with
 |some d=>cases bc
 |none =>
  simp only[hx] at bc;cases hd:T.get t with
  |none=>simp[hd] at bc
  |some d =>
   simp only[hd] at bc;cases hy:ρ y with
   |none=>simp[hy] at bc
   |some e =>
    simp only[hy] at bc;split at bc
    ·rename_i cs sH vO gS;cases hl:(Nat.beq cs.length d.size&&Nat.blt r 999999) with
     |false=>simp[hl] at bc
     |true =>
      simp only[hl,cond_true] at bc;split at bc
      ·injection bc with bc;injection bc with h1 h2;exact h1.symm
      ·split at bc
       ·rename_i cells;cases hle:Nat.ble (off+cs.length) cells.length with
        |false=>simp[hle] at bc
        |true =>simp only[hle,cond_true] at bc;injection bc with bc;injection bc with h1 h2;exact h1.symm
       ·cases bc
    ·cases bc
def DF(ρ:Operand→Option EV):Op→Option Nat
 |.load _ x=>match ρ x with
  |some (.ptr r _)=>some r
  |_=>none
 |_=>none
def ye(ρ:Operand→Option EV)(op:Op):Option nX→Option XR
 |some res=>some ⟨res.val,res.new,none,DF ρ op,res.ob⟩
 |none=>none
theorem Av(sout:aY):∀aP:aY,jE [] sout aP=aP
 |[]=>rfl
 |(x,sc)::aP=>by simp only[jE,assoc,Av sout aP,Bool.cond_self]
def Kr:Operand→Bool
 |.const (.slice none 0 0)=>true
 |_=>false
theorem Ks{env:Env}{x:Operand}(h:Kr x=false):Ai true env x=cU env x:=by
 unfold Ai;split
 ·rw[Kr] at h;cases h
 ·rfl
theorem EZ(env:Env):∀(l:List Operand) {ps:List PV},l.any Kr=false→jD env l=some ps→sZ true env (assoc []) l=some (ps.map EV.pv)
 |[],ps,_,h=>by injection h with h;subst h;rfl
 |x::l,ps,hn,h=>by
  rw[List.any_cons,Bool.or_eq_false_iff] at hn;unfold jD at h;split at h
  ·rename_i p qs hx hq;injection h with h;subst h
   unfold sZ;rw[Ks hn.1,hx,EZ env l hn.2 hq];rfl
  ·cases h
def M6(P:Program)(f:FuncId)(c:Call)(x y:Nat)(r:PV)(s:St):Option XR :=
 match c.args.toList with
 |a0::rest=>match cU s.env a0,jD s.env rest with
  |some (.ptr x1 off),some ps=>match s.aP.get x1 with
   |some sc=>bif Nat.beq x x1&&gy sc&&Nat.blt x1 999999&&Nat.blt y 999999 && !nP y then some ⟨.pv r,none,none,some x1,[ag P f (.ptr y off::ps.map EV.pv) [(y,sc)] (.pv r) [(y,sc)]]⟩ else none
   |none=>none
  |_,_=>none
 |[]=>none
theorem CB(env:Env)(σ:Nat→Option Nat):∀(l:List Operand) {ps:List PV},jD env l=some ps→sZ false env σ l=some (ps.map EV.pv)
 |[],ps,h=>by injection h with h;subst h;rfl
 |x::l,ps,h=>by
  unfold jD at h;split at h
  ·rename_i p qs hx hq;injection h with h;subst h
   unfold sZ;rw[show Ai false env x=cU env x from rfl,hx,CB env σ l hq];rfl
  ·cases h
theorem Kt{P:Program}{n:Nat}{o:Oper}{f:FuncId}{c:Call}{x y:Nat}{r:PV}{s:St}{res:XR}(pB:o.op = .call c)(nJ:c.callee = .value (.func f))(hd:jC n o.dst=true)(h:M6 P f c x y r s=some res) :
  ∃sc st,s.aP.get x=some sc∧Nat.blt x 999999=true∧Nat.blt y 999999=true∧res.new=none∧res.wr=none∧res.val = .pv r∧st=jE [(x,y)] [(y,sc)] s.aP∧mG P n o (.bm [(x,y)] none (.pv r) [(y,sc)]) s=some (⟨nN s.env o.dst (.pv r),st⟩,res.ob):=by
 unfold M6 at h;split at h
 ·rename_i a0 rest ha;split at h
  ·rename_i x1 off ps h0 lB;split at h
   ·rename_i sc gS;cases hb:(Nat.beq x x1&&gy sc&&Nat.blt x1 999999&&Nat.blt y 999999 && !nP y) with
    |false=>rw[hb] at h;cases h
    |true =>
     simp only[hb,cond_true] at h;injection h with h;subst h
     simp only[Bool.and_eq_true,Bool.not_eq_true'] at hb;obtain⟨⟨⟨⟨b1,b2⟩,b3⟩,b4⟩,b5⟩:=hb;have e:=abO b1;subst e;have Sf:aY.get [(y,sc)] y=some sc:=by rw[aY.fg (abM b4),adr];rfl
     refine⟨sc,jE [(x,y)] [(y,sc)] s.aP,gS,b3,b4,rfl,rfl,rfl,rfl,?_⟩;have il:sZ false s.env (assoc [(x,y)]) c.args.toList=some (.ptr y off::ps.map EV.pv):=by rw[ha];unfold sZ;rw[show Ai false s.env a0=cU s.env a0 from rfl,h0,CB s.env _ rest lB];simp only[sy,assoc,Nat.beq_refl,cond_true]
     have PG:sZ false s.env (fun z=>bif Nat.beq x z then some y else none) c.args.toList=some (.ptr y off::ps.map EV.pv):=by rw[←il,show assoc [(x,y)]=fun z=>bif Nat.beq x z then some y else none from funext fun z=>rfl]
     unfold mG;rw[pB];simp only[nJ,Pu,Kc,List.append_nil,PG,hd,lH,List.all_cons,List.all_nil,b2,b3,b4,b5,Sf,gS,assoc,ek,Nat.beq_refl,cond_true,cond_false,sx,Option.isSome_some,Option.map_none,Bool.or_false,Bool.and_true,Bool.not_false,sy,lf,givenBy,List.filter_cons,List.filter_nil,List.map_nil,cm,Bool.false_eq_true,if_false]
   ·cases h
  ·cases h
 ·cases h
theorem E0{aP:aY}{x y:Nat}{sc:SC}(gS:aP.get x=some sc)(hy:Nat.blt y 999999=true)(r:Nat):(jE [(x,y)] [(y,sc)] aP).get r=aP.get r:=by
 have Sf:aY.get [(y,sc)] y=some sc:=by rw[aY.fg (abM hy),adr];rfl
 rw[vl];cases hg:aP.get r with
 |none=>rfl
 |some sc' =>
  simp only[Option.map_some];cases hr:Nat.blt r 999999 with
  |false=>rfl
  |true =>
   simp only[cond_true,assoc];cases hb:Nat.beq x r with
   |false=>rfl
   |true =>have e:=abO hb;subst e;rw[gS] at hg;simp only[cond_true,Sf];exact hg
def hU(P:Program)(T:ja)(o:Oper)(h:Hint)(s:St):Option XR :=
 match o.op with
 |.store _ _ _=>match storeAt T o.op o.dst h (cU s.env) s.aP with
  |some (r,sc,ob)=>some ⟨.dead,none,some (r,sc),none,ob⟩
  |none=>none
 |.call c=>match c.callee with
  |.value (.func f)=>match h,jD s.env c.args.toList with
   |.pv r,some ps=>some ⟨.pv r,none,none,none,[eN P f ps r]⟩
   |.bm [] (some (y,d)) (.row y1 off len sz) [(y2,sc)],some ps=>bif Nat.beq y y1&&Nat.beq y y2&&gy sc&&sx o.dst d && !(c.args.toList.any Kr)&&Nat.blt y 999999 then
     some ⟨.row d off len sz,some sc,none,none,[ag P f (ps.map EV.pv) [] (.row y off len sz) [(y,sc)]]⟩ else none
   |.bm [(x,y)] none (.pv r) [],_=>M6 P f c x y r s
   |_,_=>none
  |.builtin .append=>none
  |.builtin .copy=>none
  |_=>ye (cU s.env) o.op (cI T s.aP o.dst o.op (cU s.env) h)
 |_=>ye (cU s.env) o.op (cI T s.aP o.dst o.op (cU s.env) h)
def pL(s:St)(dst:Option Nat):Option SC→Bool
 |none=>true
 |some _=>match dst with
  |none=>false
  |some d=>(s.aP.get d).isNone&&Nat.blt d 999999
def DG(P:Program)(T:ja)(n:Nat)(ops:Array Oper)(o:Oper)(h:Hint)(s:St):Option XR :=
 bif jC n o.dst then
  match o.guard with
  |none=>match hU P T o h s with
   |some res=>bif pL s o.dst res.new then some res else none
   |none=>none
  |some (j,want)=>match (ops[j]?).bind (·.dst) with
   |some t=>match s.env.get t with
    |some (.pv (.bool b))=>match h with
     |.skip=>some ⟨.pv (.bg []),none,none,none,[b = !want]⟩
     |h=>match hU P T o h s with
      |some res=>bif pL s o.dst res.new then some ⟨res.val,res.new,res.wr,res.rd,(b=want)::res.ob⟩ else none
      |none=>none
    |some (.pv (.bg _))=>match h with
     |.skip=>some ⟨.pv (.bg []),none,none,none,[]⟩
     |_=>none
    |_=>none
   |none=>none
 else none
def wE(aP:aY)(dst:Option Nat)(res:XR):aY :=
 match res.new,dst with
  |some sc,some d=>bif Nat.blt d 999999 then (d,sc)::aP else aP
  |_,_=>match res.wr with
   |some (r,sc)=>aY.set aP r sc
   |none=>aP
def hAdd(s:St)(dst:Option Nat)(res:XR):St:=⟨nN s.env dst res.val,wE s.aP dst res⟩
section
variable {P:Program} {T:ja} {Γ:Ctx} {s s':St} {a:Act} {w:World} {β:Nat→Option Nat} {I:Nat→Prop} {o:Oper} {h:Hint} {ob:List Prop} {res:XR} {ops:Array Oper}
theorem E1{r0:nX}{rd:Option Nat}(hf:pL s o.dst r0.new=true):xr s o.dst r0=some (hAdd s o.dst ⟨r0.val,r0.new,none,rd,r0.ob⟩,r0.ob):=by
 obtain⟨val,new,ob⟩:=r0;unfold xr hAdd wE;cases new with
 |none=>rfl
 |some sc =>
  unfold pL at hf;simp only;cases hd:o.dst with
  |none=>rw[hd] at hf;cases hf
  |some d =>
   rw[hd] at hf;simp only at hf ⊢;rw[abK] at hf;cases hg:s.aP.get d with
   |none=>simp only[hf.2,cond_true]
   |some _=>rw[hg] at hf;cases hf.1
theorem E2(hT:mm P T)(hs:∀r,bz Γ.sin r→Γ.n≤r)(hr:Rel Γ s a w)(bc:hU P T o h s=some res)(hf:pL s o.dst res.new=true)(hd:jC Γ.n o.dst=true)(cf:dW res.ob)
  {K:Act→World→Prop} {Q:Exit→Act→World→Prop} (hk:∀a' w',Rel Γ (hAdd s o.dst res) a' w'→K a' w'):o.wp P a w K Q:=by
 have gen:ye (cU s.env) o.op (cI T s.aP o.dst o.op (cU s.env) h)=some res→o.wp P a w K Q:=by
  intro aJ;unfold ye at aJ;split at aJ
  ·rename_i r0 Sg;injection aJ with aJ;subst aJ
   obtain⟨β,I,hr⟩:=hr;obtain⟨v,w',hex,zT⟩:=x4 hT hr.pre Sg cf;have:=(EJ hs hr hd zT (E1 (rd:=DF (cU s.env) o.op) hf)).1;unfold Oper.wp;rw[hex];exact hk _ _ this
  ·cases aJ
 unfold hU at bc;split at bc
 ·rename_i t x y pB;split at bc
  ·rename_i r sc ob Uu;injection bc with bc;subst bc
   obtain⟨h1,h2⟩:=DD Uu;refine r7 hT hr h1 cf (fun a' w' dx=>hk a' w' ?_);unfold hAdd wE;rw[h2];exact dx
  ·cases bc
 ·rename_i c pB;split at bc
  ·rename_i f nJ;split at bc
   ·rename_i r ps lB;injection bc with bc;subst bc
    have hc:sX P Γ.n o (.pv r) s=some (⟨nN s.env o.dst (.pv r),s.aP⟩,[eN P f ps r]):=by unfold sX;rw[pB];simp only[nJ,lB,hd,cond_true]
    exact sY hr hc cf (fun a' w' h=>hk a' w' h)
   ·rename_i y d y1 off len sz y2 sc ps lB;cases hb:(Nat.beq y y1&&Nat.beq y y2&&gy sc&&sx o.dst d && !(c.args.toList.any Kr)&&Nat.blt y 999999) with
    |false=>rw[hb] at bc;cases bc
    |true =>
     simp only[hb,cond_true] at bc;injection bc with bc;subst bc
     simp only[Bool.and_eq_true] at hb;obtain⟨⟨⟨⟨⟨b1,b2⟩,b3⟩,b4⟩,b5⟩,b6⟩:=hb;rw[acz] at b5;have e1:y=y1:=abO b1;have e2:y=y2:=abO b2;have e3:=mH b4;subst e1;subst e2;have ZQ:s.aP.get d=none:=by unfold pL at hf;rw[e3] at hf;simp only[Bool.and_eq_true] at hf;simpa using hf.1
     have qX:Nat.blt d 999999=true:=by unfold pL at hf;rw[e3] at hf;simp only[Bool.and_eq_true] at hf;exact hf.2
     have Sf:aY.get [(y,sc)] y=some sc:=by rw[aY.fg (abM b6),adr];rfl
     have uG:Nat.blt d Γ.n=true:=by rw[e3] at hd;exact hd
     have hc:mG P Γ.n o (.bm [] (some (y,d)) (.row y off len sz) [(y,sc)]) s=some (⟨nN s.env o.dst (.row d off len sz),(d,sc)::s.aP⟩,[ag P f (ps.map EV.pv) [] (.row y off len sz) [(y,sc)]]):=by unfold mG;rw[pB];simp only[nJ,Pu,Kc,List.append_nil,EZ _ _ b5 lB,hd,lH,List.all_nil,List.all_cons,b3,b6,Sf,Nat.beq_refl,cond_true,ZQ,ek,sy,uG,Av,lf,Option.map_some,sx,Option.isSome_none,Bool.false_or,Bool.and_true,Bool.false_and,givenBy,List.filter_nil,List.map_nil,cm]
     refine nQ hs hr hc cf (fun a' w' h=>hk a' w' ?_);unfold hAdd wE;simp only[e3,qX,cond_true] at h ⊢;exact h
   ·rename_i x y r _ _;obtain⟨sc,st,g1,g2,g3,g4,g5,g6,g7,g8⟩:=Kt pB nJ hd bc;subst g7;refine nQ hs hr g8 cf (fun a' w' h=>hk a' w' ?_);refine Rel.IL ⟨fun t => ?_,fun q => ?_⟩ h
    ·unfold hAdd;rw[g6]
    ·show(wE s.aP o.dst res).get q=_;rw[E0 g1 g3];unfold wE;rw[g4,g5]
   ·cases bc
  ·cases bc
  ·cases bc
  ·exact gen bc
 ·exact gen bc
theorem GC(hT:mm P T)(hs:∀r,bz Γ.sin r→Γ.n≤r)(hr:Rel Γ s a w)(bc:DG P T Γ.n ops o h s=some res)(cf:dW res.ob)
  {K:Act→World→Prop} {Q:Exit→Act→World→Prop} (hk:∀a' w',Rel Γ (hAdd s o.dst res) a' w'→K a' w') :
  if Region.wanted o (yielded ops a.tmps) then o.wp P a w K Q∨(o.asks P a w∧LetsOut Q) else K (a.put o.dst undef) w:=by
 unfold DG at bc;cases hd:jC Γ.n o.dst with
 |false=>simp[hd] at bc
 |true =>
  simp only[hd,cond_true] at bc;split at bc
  ·rename_i hg;have hw:Region.wanted o (yielded ops a.tmps)=true:=by simp[Region.wanted,hg]
   rw[ac7 hw];split at bc
   ·rename_i PH mq;cases hf:pL s o.dst PH.new with
    |false=>simp[hf] at bc
    |true =>
     simp only[hf,cond_true] at bc;injection bc with bc;subst bc
     exact .inl (E2 hT hs hr mq hf hd cf hk)
   ·cases bc
  ·rename_i j want hg;split at bc
   ·rename_i t ht;split at bc
    ·rename_i b hb;have hy:yielded ops a.tmps j=some b:=by
      obtain⟨β,I,dx⟩:=hr;have hv:Rd I w (.bool b) (a.tmps.getD t undef):=dx.env t _ hb;have wv:a.tmps.getD t undef = .bool b:=by generalize a.tmps.getD t undef=v at hv;cases hv;rfl
      unfold yielded;rw[ht];simp only[Option.bind_some];rw[abV] at wv;cases hx:a.tmps[t]? with
      |none=>rw[hx] at wv;simp[undef] at wv
      |some v=>rw[hx] at wv;simp at wv;subst wv;rfl
     have hw:Region.wanted o (yielded ops a.tmps)=(b==want):=by simp only[Region.wanted,hg,hy];cases b<;>cases want<;>rfl
     split at bc
     ·injection bc with bc;subst bc
      have VH:b = !want:=cf;rw[ac3 (by rw[hw,VH];cases want<;>simp)];obtain⟨β,I,dx⟩:=hr;exact hk _ _ ⟨β,I,dx.put (eO hd) (wA _ _)⟩
     ·split at bc
      ·rename_i PH mq;cases hf:pL s o.dst PH.new with
       |false=>simp[hf] at bc
       |true =>
        simp only[hf,cond_true] at bc;injection bc with bc;subst bc
        obtain⟨g1,g2⟩:=cf.cons;rw[ac7 (by rw[hw,g1];simp)];exact .inl (E2 hT hs hr mq hf hd g2 hk)
      ·cases bc
    ·rename_i vs hb;split at bc
     ·injection bc with bc;subst bc
      obtain⟨β,I,dx⟩:=hr;rw[ac3 (by rw[Ar ht (dx.env t _ hb) hg];simp)];exact hk _ _ ⟨β,I,dx.put (eO hd) (wA _ _)⟩
     ·cases bc
    ·cases bc
   ·cases bc
abbrev HR:=Nat×Oper×XR
def app(U:List Nat):List HR→St→St
 |[],s=>s
 |(i,o,res)::rs,s=>app U rs (if i∈U then s else hAdd s o.dst res)
def vm:List HR→Prop
 |[]=>True
 |(_,o,_)::rs=>(∀d,o.dst=some d→∀x∈rs,x.2.1.dst≠some d)∧vm rs
def jv(x:HR):Option Nat :=
 match x.2.2.new,x.2.1.dst with
 |some _,some d=>some d
 |_,_=>x.2.2.wr.map (·.1)
theorem Aw(s:St)(dst:Option Nat)(res:XR)(t:Nat):(hAdd s dst res).env.get t=if dst=some t then some res.val else s.env.get t:=by
 cases dst with
 |none=>simp[hAdd,nN]
 |some d =>
  simp only[hAdd,nN,Env.get];cases hb:Nat.beq d t with
  |true=>have:d=t:=abO hb;subst this;simp
  |false =>
   have:d≠t:=by intro e;subst e;simp at hb
   simp[this]
theorem vn(aP:aY)(x:HR)(r:Nat)(h:jv x≠some r):(wE aP x.2.1.dst x.2.2).get r=aP.get r:=by
 unfold jv at h;unfold wE;split
 ·rename_i sc d hn hd;simp only[hn,hd] at h;cases qX:Nat.blt d 999999 with
  |false=>rfl
  |true =>simp only[cond_true];rw[aY.fg (abM qX),gm (fun e=>h (by rw[e]))];rfl
 ·rename_i nZ;split at h
  ·rename_i sc d hn hd;exact absurd hd (nZ _ _ hn)
  ·split
   ·rename_i r' sc hw;rw[hw] at h;simp only[Option.map_some,ne_eq,Option.some.injEq] at h;rw[aY.lE,ac3 (fun e=>h e.1.symm)]
   ·rfl
theorem CC(aP xv:aY)(x:HR)(r:Nat)(h:xv.get r=aP.get r):(wE xv x.2.1.dst x.2.2).get r=(wE aP x.2.1.dst x.2.2).get r:=by
 unfold wE;split
 ·rename_i sc d _ _;cases qX:Nat.blt d 999999 with
  |false=>exact h
  |true =>simp only[cond_true];rw[aY.fg (abM qX),aY.fg (abM qX),h]
 ·split
  ·rw[aY.lE,aY.lE,h]
  ·exact h
theorem jW(U:List Nat)(t:Nat):∀(rs:List HR) (s:St),(∀x∈rs,x.2.1.dst=some t→x.1∈U)→(app U rs s).env.get t=s.env.get t
 |[],s,_=>rfl
 |(i,o,res)::rs,s,h=>by
  simp only[app];rw[jW U t rs _ (fun x hx=>h x (by simp[hx]))];by_cases hi:i∈U
  ·rw[ac7 hi]
  ·rw[ac3 hi,Aw,ac3 (fun e=>hi (h (i,o,res) (by simp) e))]
theorem lK(U:List Nat)(t:Nat)(x:HR)(ht:x.2.1.dst=some t)(hu:x.1 ∉ U)(rs:List HR):∀(s:St),vm rs→x∈rs→(app U rs s).env.get t=some x.2.2.val:=by
 induction rs with
 |nil=>intro s _ hx;cases hx
 |cons y rs ih =>
  intro s hd hx;obtain⟨i,o,res⟩:=y;show(app U rs (if i∈U then s else hAdd s o.dst res)).env.get t=_;rcases ac0.1 hx with hx|hx
  ·subst hx;rw[jW U t rs _ (fun y hy e=>absurd e (hd.1 t ht y hy)),ac3 hu,Aw,ac7 ht]
  ·exact ih _ hd.2 hx
theorem pM(U U':List Nat)(r:Nat):∀(rs:List HR) (s s':St),(∀y∈rs,jv y=some r→(y.1∈U↔y.1∈U'))→s'.aP.get r=s.aP.get r→(app U' rs s').aP.get r=(app U rs s).aP.get r
 |[],s,s',_,h=>h
 |(i,o,res)::rs,s,s',hU,h=>by
  simp only[app];refine pM U U' r rs _ _ (fun y hy=>hU y (by simp[hy])) ?_;by_cases hw:jv (i,o,res)=some r
  ·have hi:=hU (i,o,res) (by simp) hw;by_cases h1:i∈U
   ·rw[ac7 h1,ac7 (hi.1 h1)];exact h
   ·rw[ac3 h1,ac3 (fun h2=>h1 (hi.2 h2))];exact CC s.aP s'.aP (i,o,res) r h
  ·have h1:∀(b:Prop) [Decidable b] (s:St),(if b then s else hAdd s o.dst res).aP.get r=s.aP.get r:=fun b _ s=>by
    split
    ·rfl
    ·exact vn s.aP (i,o,res) r hw
   rw[h1,h1];exact h
theorem rr(U:List Nat)(r:Nat):∀(rs:List HR) (s:St),(∀y∈rs,jv y=some r→y.1∈U)→(app U rs s).aP.get r=s.aP.get r
 |[],s,_=>rfl
 |(i,o,res)::rs,s,h=>by
  simp only[app];rw[rr U r rs _ (fun y hy=>h y (by simp[hy]))];by_cases hi:i∈U
  ·rw[ac7 hi]
  ·rw[ac3 hi];exact vn s.aP (i,o,res) r (fun e=>hi (h (i,o,res) (by simp) e))
theorem vo(U:List Nat):∀(pre post:List HR) (s:St),app U (pre++post) s=app U post (app U pre s)
 |[],_,_=>rfl
 |(i,o,res)::pre,post,s=>by simp only[List.cons_append,app];exact vo U pre post _
theorem Ax{U:List Nat}{pre post:List HR}{x:HR}{r:Nat}(s:St)(h1:∀y∈pre,jv y=some r→y.1 ∉ U)(h2:∀y∈post,jv y=some r→y.1∈U)(hx:x.1∈U) :
  (app U (pre++x::post) s).aP.get r=(app [] pre s).aP.get r:=by
 rw[vo];obtain⟨i,o,res⟩:=x;show(app U post (if i∈U then app U pre s else hAdd (app U pre s) o.dst res)).aP.get r=_;rw[ac7 hx,rr U r post _ h2];exact pM [] U r pre s s (fun y hy hw=>⟨fun h=>(by cases h),fun h=>absurd h (h1 y hy hw)⟩) rfl
theorem IX{U U':List Nat}{rs pre post:List HR}{x:HR}(IY:rs=pre++x::post)(hd:vm rs)(hU:∀j,j∈U'↔j∈U∧j≠x.1)(CD:∀y∈rs,y.1=x.1→y=x)(VN:x ∉ pre)(PI:x.1∈U)
  (Mt:∀r,jv x=some r→∀y∈pre,jv y=some r→y.1 ∉ U) (GD:∀r,jv x=some r→∀y∈post,jv y=some r→y.1∈U) (ZR:x ∉ post) (s:St) :
  MR (hAdd (app U rs s) x.2.1.dst x.2.2) (app U' rs s):=by
 have hx:x∈rs:=by rw[IY];simp
 have uJ:x.1 ∉ U':=fun h=>((hU _).1 h).2 rfl
 refine⟨fun t => ?_,fun r => ?_⟩
 ·rw[Aw];by_cases ht:x.2.1.dst=some t
  ·rw[ac7 ht,lK U' t x ht uJ rs s hd hx]
  ·rw[ac3 ht];by_cases hy:∃y∈rs,y.2.1.dst=some t∧y.1 ∉ U
   ·obtain⟨y,hy,Rr,Uv⟩:=hy;rw[lK U t y Rr Uv rs s hd hy,lK U' t y Rr (fun h=>Uv ((hU _).1 h).1) rs s hd hy]
   ·have h1:∀y∈rs,y.2.1.dst=some t→y.1∈U:=fun y Ak Ov=>aco fun hc=>hy ⟨y,Ak,Ov,hc⟩
    rw[jW U t rs s h1,jW U' t rs s (fun y Ak Ov=>(hU _).2 ⟨h1 y Ak Ov,fun e=>ht (by rw[←CD y Ak e];exact Ov)⟩)]
 ·by_cases hw:jv x=some r
  ·have e1:(app U' rs s).aP.get r=(wE (app U' pre s).aP x.2.1.dst x.2.2).get r:=by
    rw[IY,vo];obtain⟨i,o,res⟩:=x;show(app U' post (if i∈U' then app U' pre s else hAdd (app U' pre s) o.dst res)).aP.get r=_;rw[ac3 uJ,rr U' r post _ (fun y hy Si=>(hU _).2 ⟨GD r hw y hy Si,fun e=>ZR (by rw[←CD y (by rw[IY];simp[hy]) e];exact hy)⟩)];rfl
   rw[e1];show _=(wE (app U rs s).aP x.2.1.dst x.2.2).get r;refine CC _ _ x r ?_;rw[IY,Ax s (Mt r hw) (GD r hw) PI];exact pM [] U' r pre s s (fun y hy Si=>⟨fun h=>(by cases h),fun h=>absurd ((hU _).1 h).1 (Mt r hw y hy Si)⟩) rfl
  ·show _=(wE (app U rs s).aP x.2.1.dst x.2.2).get r;rw[vn _ x r hw];refine pM U U' r rs s s (fun y hy Si=>⟨fun h=>(hU _).2 ⟨h,fun e=>hw (by rw[←CD y hy e];exact Si)⟩,fun h=>((hU _).1 h).1⟩) rfl
def Cb(P:Program)(T:ja)(n:Nat)(ops:Array Oper):List HR→List Hint→St→Prop
 |[],_,_=>True
 |(i,o,res)::rs,hs,s=>ops[i]? = some o∧DG P T n ops o (hs.headD .none) s=some res∧Cb P T n ops rs hs.tail (hAdd s o.dst res)
theorem E3{env B9:Env}(x:Operand)(h:∀t,x = .tmp t→B9.get t=env.get t):cU B9 x=cU env x:=by
 cases x with
 |tmp t=>exact h t rfl
 |const v=>rfl
 |func f=>rfl
 |global g=>rfl
theorem GF{ρ ρ':Operand→Option EV}{op:Op}(hx:∀x∈op.operands,ρ' x=ρ x):DF ρ' op=DF ρ op:=by
 cases op<;>try rfl
 case load t x=>simp only[DF];rw[hx x (by simp[Op.operands])]
def ru(ρ:Operand→Option EV):Op→Option Nat
 |.load _ x=>match ρ x with
  |some (.ptr r _)=>some r
  |_=>none
 |.store _ x _=>match ρ x with
  |some (.ptr r _)=>some r
  |_=>none
 |.call c=>match c.callee,c.args.toList with
  |.value (.func _),x::_=>match ρ x with
   |some (.ptr r _)=>some r
   |_=>none
  |_,_=>none
 |_=>none
theorem IZ{f:FuncId}{c:Call}{s s':St}{x y:Nat}{r:PV}(nJ:c.callee = .value (.func f))(he:∀x∈c.args.toList,cU s'.env x=cU s.env x)
  (hs:∀r,ru (cU s.env) (.call c)=some r→s'.aP.get r=s.aP.get r):M6 P f c x y r s'=M6 P f c x y r s:=by
 unfold M6;split
 ·rename_i a0 rest ha;rw[he a0 (by rw[ha];simp),rq (l:=rest) (fun x hx=>he x (by rw[ha];simp[hx]))];split
  ·rename_i x1 off ps h0 lB;rw[hs x1 (by simp only[ru,nJ,ha,h0])]
  ·rfl
 ·rfl
theorem Ku{s s':St}(he:∀t,Operand.tmp t∈o.op.operands→s'.env.get t=s.env.get t)
  (hs:∀r,ru (cU s.env) o.op=some r→s'.aP.get r=s.aP.get r):hU P T o h s'=hU P T o h s:=by
 have xn:∀x∈o.op.operands,cU s'.env x=cU s.env x:=fun x hx=>E3 x (fun t ht=>he t (ht ▸ hx))
 have pB:cI T s'.aP o.dst o.op (cU s'.env) h=cI T s.aP o.dst o.op (cU s.env) h:=EY xn (fun t x r off ho hx=>hs r (by rw[ho];simp[ru,hx]));have uw:DF (cU s'.env) o.op=DF (cU s.env) o.op:=GF xn;have Ow:ye (cU s'.env) o.op (cI T s'.aP o.dst o.op (cU s'.env) h)=ye (cU s.env) o.op (cI T s.aP o.dst o.op (cU s.env) h):=by rw[pB];unfold ye;rw[uw]
 unfold hU;split
 ·rename_i t x y ho;rw[Ca xn (fun t x y r off ho hx=>hs r (by rw[ho];simp[ru,hx]))]
 ·rename_i c hc;rw[hc] at xn;have VO:jD s'.env c.args.toList=jD s.env c.args.toList:=rq (fun x hx=>xn x (by simp[Op.operands,Call.operands];exact .inr (by simpa using hx)));split
  ·rename_i f nJ;have h1:∀x y r,M6 P f c x y r s'=M6 P f c x y r s:=fun x y r=>IZ nJ (fun x hx=>xn x (by simp[Op.operands,Call.operands];exact .inr (by simpa using hx))) (fun r hr=>hs r (by rw[hc];exact hr))
   rw[VO];simp only[h1]
  ·rfl
  ·rfl
  ·exact Ow
 ·exact Ow
theorem M7(bc:hU P T o h s=some res){r:Nat}(hr:ru (cU s.env) o.op=some r):res.rd=some r∨(res.new=none∧res.wr.map (·.1)=some r):=by
 unfold hU at bc;split at bc
 ·rename_i t x y pB;right;split at bc
  ·rename_i r' sc ob Uu;injection bc with bc;subst bc
   refine⟨rfl,?_⟩;rw[pB] at hr Uu;unfold ru at hr;simp only at hr;split at hr
   ·rename_i q off hq;injection hr with hr;subst hr
    rw[DE Uu hq];rfl
   ·cases hr
  ·cases bc
 ·rename_i c pB;rw[pB] at hr;unfold ru at hr;simp only at hr;split at hr
  ·rename_i f a0 rest VP ha;split at hr
   ·rename_i r' off hq;injection hr with hr;subst hr
    have VN:jD s.env c.args.toList=none:=by rw[ha,jD,hq]
    split at bc
    ·rename_i f nJ;split at bc
     ·rename_i h9;rw[VN] at h9;cases h9
     ·rename_i h9;rw[VN] at h9;cases h9
     ·unfold M6 at bc;rw[ha] at bc;simp only[hq] at bc;split at bc
      ·rename_i x1 ZS ps h0 lB;injection h0 with h0;injection h0 with h0 _;subst h0
       split at bc
       ·rename_i sc gS;cases hb:(Nat.beq _ _&&gy sc&&Nat.blt _ 999999&&Nat.blt _ 999999 && !nP _) with
        |false=>rw[hb] at bc;cases bc
        |true =>
         simp only[hb,cond_true] at bc;injection bc with bc;subst bc
         exact .inl rfl
       ·cases bc
      ·cases bc
     ·cases bc
    ·cases bc
    ·cases bc
    ·rename_i h9 _ _;exact absurd VP (h9 f)
   ·cases hr
  ·cases hr
 ·left;unfold ye at bc;split at bc
  ·injection bc with bc;subst bc
   show DF (cU s.env) o.op=some r;rename_i EK VQ _ _ _;cases ho:o.op<;>rw[ho] at hr<;>first|(cases hr;done)|skip
   ·simpa[ru,DF] using hr
   ·rename_i t x y;exact absurd ho (EK t x y)
   ·exact absurd ho (VQ _)
  ·cases bc
end
end Go.Proofs.YtneklnlpgfeplaaGreat.Sym
