/- Bezout and Accepts of the program answer as the reference does. -/
import Derived.Test.YtboilcfohmmpbaaGreatDoorYSymO
namespace Go.Proofs.YtboilcfohmmpbaaGreatDoor.Sym
open Go Go.RowKit
theorem partsPV_congr{ρ ρ':Operand→Option EV} : ∀{l:List (Nat×Operand)},(∀x∈l.map (·.2),ρ' x=ρ x)→partsPV ρ' l=partsPV ρ l
 |[],_=>rfl
 |(i,x)::r,h=>by
  unfold partsPV
  rw[h x (by simp),partsPV_congr (l:=r) (fun y hy=>h y (by simp at hy ⊢;exact .inr hy))]
theorem opRun_congr{T:Tab}{sto sto':Sto}{dst:Option Nat}{op:Op}{ρ ρ':Operand→Option EV}{h:Hint}(hx:∀x∈op.operands,ρ' x=ρ x)
  (hs:∀t x r off,op = .load t x→ρ x=some (.ptr r off)→sto'.get r=sto.get r):opRun T sto' dst op ρ' h=opRun T sto dst op ρ h:=by
 cases op<;>simp only[Op.operands] at hx<;>simp only[opRun]
 case move x=>rw[hx x (by simp)]
 case assign x=>rw[hx x (by simp)]
 case pick c a b =>
  have h1:=hx c (by simp)
  have h2:=hx a (by simp)
  have h3:=hx b (by simp)
  have h4:∀d:Bool,ρ' (bif d then a else b)=ρ (bif d then a else b):=fun d=>by cases d<;>simp[h2,h3]
  rw[h1]
  simp only[h4]
 case box t x=>rw[hx x (by simp)]
 case build t ps=>rw[partsPV_congr (fun x hx'=>hx x (by simpa using hx'))]
 case buildSlice t n ps=>rw[partsPV_congr (fun x hx'=>hx x (by simpa using hx'))]
 case load t x =>
  have h1:=hx x (by simp)
  rw[h1]
  cases T.get t with
  |none=>rfl
  |some d =>
   cases hr:ρ x with
   |none=>rfl
   |some e =>
    cases e with
    |ptr r off=>simp only[hs t x r off rfl hr]
    |_=>rfl
 case nilCheck x=>rw[hx x (by simp)]
 case binOp op t x y yt=>rw[hx x (by simp),hx y (by simp)]
 case unOp op t x=>rw[hx x (by simp)]
 case convert s t x=>rw[hx x (by simp)]
 case makeInterface t x=>rw[hx x (by simp)]
 case makeFunc fn f1 cap =>
  have h1:∀x∈cap.toList,ρ' x=ρ x:=fun x hx'=>hx x (by simp only[Array.mem_append];exact .inr (by simpa using hx'))
  generalize cap.toList=l at h1 ⊢
  generalize f1.toList=l1
  cases fn<;>cases l1<;>try rfl
  rcases l with _|⟨x,_|⟨y,l⟩⟩
  ·rfl
  ·simp only[h1 x (by simp)]
  ·rfl
 case makeSlice t x y=>rw[hx x (by simp),hx y (by simp)]
 case slice t x lo hi mx =>
  have h1:=hx x (by simp)
  have h2:∀d:EV,orD ρ' lo d=orD ρ lo d:=fun d=>by
   cases lo with
   |none=>rfl
   |some y=>exact hx y (by simp)
  have h3:∀d:EV,orD ρ' hi d=orD ρ hi d:=fun d=>by
   cases hi with
   |none=>rfl
   |some y=>exact hx y (by simp)
  simp only[h1,h2,h3]
 case fieldAddr t x f=>rw[hx x (by simp)]
 case field t x f=>rw[hx x (by simp)]
 case indexAddr t x y=>rw[hx x (by simp),hx y (by simp)]
 case index t x i=>rw[hx x (by simp),hx i (by simp)]
 case extract x i=>rw[hx x (by simp)]
 case typeAssert x xt t ok=>cases ok<;>simp only[hx x (by simp)]
 case call c =>
  obtain⟨cl,args,ats⟩:=c
  simp only
  split
  ·rename_i x t hargs _
   rw[hx x (by simp[Call.operands,arr1 hargs])]
  ·rename_i x y hargs
   rw[hx x (by simp[Call.operands,arr2 hargs]),hx y (by simp[Call.operands,arr2 hargs])]
  ·rename_i x y hargs
   rw[hx x (by simp[Call.operands,arr2 hargs]),hx y (by simp[Call.operands,arr2 hargs])]
  ·rfl
theorem pvArgs_congr{env env':Env} : ∀{l:List Operand},(∀x∈l,evalO env' x=evalO env x)→pvArgs env' l=pvArgs env l
 |[],_=>rfl
 |x::r,h=>by
  unfold pvArgs
  rw[h x (by simp),pvArgs_congr (l:=r) (fun y hy=>h y (by simp[hy]))]
structure XR where
 val:EV
 new:Option SC
 wr:Option (Nat×SC)
 rd:Option Nat
 ob:List Prop
def storeAt(T:Tab)(op:Op)(dst:Option Nat)(h:Hint)(ρ:Operand→Option EV)(sto:Sto):Option (Nat×SC×List Prop) :=
 match op,dst with
 |.store t x y,none=>match T.get t,ρ x,ρ y with
  |some d,some (.ptr r off),some e=>match cellsEV e,sto.get r with
   |some cs,some sc=>bif Nat.beq cs.length d.size&&Nat.blt r 999999 then
     match h with
     |.cells sc'=>some (r,sc',[off+cs.length≤sc.evs.length,splice sc.evs off cs=sc'.evs])
     |_=>match sc with
      |.lit cells=>bif Nat.ble (off+cs.length) cells.length then some (r,.lit (splice cells off cs),[]) else none
      |_=>none
    else none
   |_,_=>none
  |_,_,_=>none
 |_,_=>none
theorem storeAt_step{T:Tab}{o:Oper}{h:Hint}{s:St}{r:Nat}{sc:SC}{ob:List Prop}(hst:storeAt T o.op o.dst h (evalO s.env) s.sto=some (r,sc,ob)) :
  stepStore T o h s=some (⟨s.env,Sto.set s.sto r sc⟩,ob)∧o.dst=none:=by
 unfold storeAt at hst
 split at hst
 ·rename_i t x y hop hdst
  refine⟨?_,hdst⟩
  unfold stepStore
  rw[hop,hdst]
  simp only
  split at hst
  ·rename_i d r' off e hd hx hy
   simp only[hd,hx,hy]
   split at hst
   ·rename_i cs sc0 hcs hsc
    simp only[hcs,hsc]
    cases hl:(Nat.beq cs.length d.size&&Nat.blt r' 999999) with
    |false=>simp[hl] at hst
    |true =>
     simp only[hl,cond_true] at hst ⊢
     split at hst
     ·injection hst with hst;injection hst with h1 h2;injection h2 with h2 h3
      subst h1;subst h2;subst h3
      rfl
     ·rename_i hne
      split at hst
      ·rename_i cells
       cases hle:Nat.ble (off+cs.length) cells.length with
       |false=>simp[hle] at hst
       |true =>
        simp only[hle,cond_true] at hst
        injection hst with hst;injection hst with h1 h2;injection h2 with h2 h3
        subst h1;subst h2;subst h3
        cases h<;>first|(simp only[hle,cond_true];done)|exact absurd rfl (hne _)
      ·cases hst
   ·cases hst
  ·cases hst
 ·cases hst
theorem storeAt_congr{T:Tab}{op:Op}{dst:Option Nat}{h:Hint}{ρ ρ':Operand→Option EV}{sto sto':Sto}(hx:∀x∈op.operands,ρ' x=ρ x)
  (hs:∀t x y r off,op = .store t x y→ρ x=some (.ptr r off)→sto'.get r=sto.get r):storeAt T op dst h ρ' sto'=storeAt T op dst h ρ sto:=by
 unfold storeAt
 split
 ·rename_i t x y
  simp only[Op.operands] at hx
  rw[hx x (by simp),hx y (by simp)]
  split
  ·rename_i d r off e hd hr hy
   rw[hs t x y r off rfl hr]
  ·rfl
 ·rfl
theorem storeAt_site{T:Tab}{t:TypeId}{x y:Operand}{dst:Option Nat}{h:Hint}{ρ:Operand→Option EV}{sto:Sto}{r r' off:Nat}{sc:SC}{ob:List Prop}
  (hst:storeAt T (.store t x y) dst h ρ sto=some (r',sc,ob)) (hx:ρ x=some (.ptr r off)):r'=r:=by
 unfold storeAt at hst
 cases dst with
 |some d=>cases hst
 |none =>
  simp only[hx] at hst
  cases hd:T.get t with
  |none=>simp[hd] at hst
  |some d =>
   simp only[hd] at hst
   cases hy:ρ y with
   |none=>simp[hy] at hst
   |some e =>
    simp only[hy] at hst
    split at hst
    ·rename_i cs sc0 hcs hsc
     cases hl:(Nat.beq cs.length d.size&&Nat.blt r 999999) with
     |false=>simp[hl] at hst
     |true =>
      simp only[hl,cond_true] at hst
      split at hst
      ·injection hst with hst;injection hst with h1 h2;exact h1.symm
      ·split at hst
       ·rename_i cells
        cases hle:Nat.ble (off+cs.length) cells.length with
        |false=>simp[hle] at hst
        |true =>
         simp only[hle,cond_true] at hst
         injection hst with hst;injection hst with h1 h2;exact h1.symm
       ·cases hst
    ·cases hst
def rdOf(ρ:Operand→Option EV):Op→Option Nat
 |.load _ x=>match ρ x with
  |some (.ptr r _)=>some r
  |_=>none
 |_=>none
def liftR(ρ:Operand→Option EV)(op:Op):Option OpRes→Option XR
 |some res=>some ⟨res.val,res.new,none,rdOf ρ op,res.ob⟩
 |none=>none
theorem updSto_nil(sout:Sto):∀sto:Sto,updSto [] sout sto=sto
 |[]=>rfl
 |(x,sc)::sto=>by simp only[updSto,assoc,updSto_nil sout sto,Bool.cond_self]
def nilC:Operand→Bool
 |.const (.slice none 0 0)=>true
 |_=>false
theorem evalX_no{env:Env}{x:Operand}(h:nilC x=false):evalX true env x=evalO env x:=by
 unfold evalX
 split
 ·rw[nilC] at h;cases h
 ·rfl
theorem argsX_no(env:Env):∀(l:List Operand) {ps:List PV},l.any nilC=false→pvArgs env l=some ps→argsX true env (assoc []) l=some (ps.map EV.pv)
 |[],ps,_,h=>by injection h with h;subst h;rfl
 |x::l,ps,hn,h=>by
  rw[List.any_cons,Bool.or_eq_false_iff] at hn
  unfold pvArgs at h
  split at h
  ·rename_i p qs hx hq
   injection h with h;subst h
   unfold argsX
   rw[evalX_no hn.1,hx,argsX_no env l hn.2 hq]
   rfl
  ·cases h
def hU(P:Program)(T:Tab)(o:Oper)(h:Hint)(s:St):Option XR :=
 match o.op with
 |.store _ _ _=>match storeAt T o.op o.dst h (evalO s.env) s.sto with
  |some (r,sc,ob)=>some ⟨.dead,none,some (r,sc),none,ob⟩
  |none=>none
 |.call c=>match c.callee with
  |.value (.func f)=>match h,pvArgs s.env c.args.toList with
   |.pv r,some ps=>some ⟨.pv r,none,none,none,[Contract P f ps r]⟩
   |.callX [] (some (y,d)) (.row y1 off len sz) [(y2,sc)],some ps=>bif Nat.beq y y1&&Nat.beq y y2&&closedSC sc&&eqON o.dst d && !(c.args.toList.any nilC)&&Nat.blt y 999999 then
     some ⟨.row d off len sz,some sc,none,none,[ContractX P f (ps.map EV.pv) [] (.row y off len sz) [(y,sc)]]⟩ else none
   |_,_=>none
  |.builtin .append=>none
  |.builtin .copy=>none
  |_=>liftR (evalO s.env) o.op (opRun T s.sto o.dst o.op (evalO s.env) h)
 |_=>liftR (evalO s.env) o.op (opRun T s.sto o.dst o.op (evalO s.env) h)
def freeD(s:St)(dst:Option Nat):Option SC→Bool
 |none=>true
 |some _=>match dst with
  |none=>false
  |some d=>(s.sto.get d).isNone&&Nat.blt d 999999
def hRes(P:Program)(T:Tab)(n:Nat)(ops:Array Oper)(o:Oper)(h:Hint)(s:St):Option XR :=
 bif dstOk n o.dst then
  match o.guard with
  |none=>match hU P T o h s with
   |some res=>bif freeD s o.dst res.new then some res else none
   |none=>none
  |some (j,want)=>match (ops[j]?).bind (·.dst) with
   |some t=>match s.env.get t with
    |some (.pv (.bool b))=>match h with
     |.skip=>some ⟨.pv (.tup []),none,none,none,[b = !want]⟩
     |h=>match hU P T o h s with
      |some res=>bif freeD s o.dst res.new then some ⟨res.val,res.new,res.wr,res.rd,(b=want)::res.ob⟩ else none
      |none=>none
    |some (.pv (.tup _))=>match h with
     |.skip=>some ⟨.pv (.tup []),none,none,none,[]⟩
     |_=>none
    |_=>none
   |none=>none
 else none
def hSto(sto:Sto)(dst:Option Nat)(res:XR):Sto :=
 match res.new,dst with
  |some sc,some d=>bif Nat.blt d 999999 then (d,sc)::sto else sto
  |_,_=>match res.wr with
   |some (r,sc)=>Sto.set sto r sc
   |none=>sto
def hAdd(s:St)(dst:Option Nat)(res:XR):St:=⟨setD s.env dst res.val,hSto s.sto dst res⟩
section
variable {P:Program} {T:Tab} {Γ:Ctx} {s s':St} {a:Act} {w:World} {β:Nat→Option Nat} {I:Nat→Prop} {o:Oper} {h:Hint} {ob:List Prop} {res:XR} {ops:Array Oper}
theorem addRes_hAdd{r0:OpRes}{rd:Option Nat}(hf:freeD s o.dst r0.new=true):addRes s o.dst r0=some (hAdd s o.dst ⟨r0.val,r0.new,none,rd,r0.ob⟩,r0.ob):=by
 obtain⟨val,new,ob⟩:=r0
 unfold addRes hAdd hSto
 cases new with
 |none=>rfl
 |some sc =>
  unfold freeD at hf
  simp only
  cases hd:o.dst with
  |none=>rw[hd] at hf;cases hf
  |some d =>
   rw[hd] at hf
   simp only at hf ⊢
   rw[Bool.and_eq_true] at hf
   cases hg:s.sto.get d with
   |none=>simp only[hf.2,cond_true]
   |some _=>rw[hg] at hf;cases hf.1
theorem hU_sound(hT:TOk P T)(hs:∀r,dom Γ.sin r→Γ.n≤r)(hr:Rel Γ s a w)(hst:hU P T o h s=some res)(hf:freeD s o.dst res.new=true)(hd:dstOk Γ.n o.dst=true)(hob:Alls res.ob)
  {K:Act→World→Prop} {Q:Exit→Act→World→Prop} (hk:∀a' w',Rel Γ (hAdd s o.dst res) a' w'→K a' w'):o.wp P a w K Q:=by
 have gen:liftR (evalO s.env) o.op (opRun T s.sto o.dst o.op (evalO s.env) h)=some res→o.wp P a w K Q:=by
  intro hrun
  unfold liftR at hrun
  split at hrun
  ·rename_i r0 hrun0
   injection hrun with hrun;subst hrun
   obtain⟨β,I,hr⟩:=hr
   obtain⟨v,w',hex,hpost⟩:=opRun_sound hT hr.pre hrun0 hob
   have:=(rel_post hs hr hd hpost (addRes_hAdd (rd:=rdOf (evalO s.env) o.op) hf)).1
   unfold Oper.wp
   rw[hex]
   exact hk _ _ this
  ·cases hrun
 unfold hU at hst
 split at hst
 ·rename_i t x y hop
  split at hst
  ·rename_i r sc ob hsa
   injection hst with hst;subst hst
   obtain⟨h1,h2⟩:=storeAt_step hsa
   refine stepStore_sound hT hr h1 hob (fun a' w' hr'=>hk a' w' ?_)
   unfold hAdd hSto
   rw[h2]
   exact hr'
  ·cases hst
 ·rename_i c hop
  split at hst
  ·rename_i f hcl
   split at hst
   ·rename_i r ps hps
    injection hst with hst;subst hst
    have hc:stepCall P Γ.n o (.pv r) s=some (⟨setD s.env o.dst (.pv r),s.sto⟩,[Contract P f ps r]):=by
     unfold stepCall
     rw[hop]
     simp only[hcl,hps,hd,cond_true]
    exact stepCall_sound hr hc hob (fun a' w' h=>hk a' w' h)
   ·rename_i y d y1 off len sz y2 sc ps hps
    cases hb:(Nat.beq y y1&&Nat.beq y y2&&closedSC sc&&eqON o.dst d && !(c.args.toList.any nilC)&&Nat.blt y 999999) with
    |false=>rw[hb] at hst;cases hst
    |true =>
     simp only[hb,cond_true] at hst
     injection hst with hst;subst hst
     simp only[Bool.and_eq_true] at hb
     obtain⟨⟨⟨⟨⟨b1,b2⟩,b3⟩,b4⟩,b5⟩,b6⟩:=hb
     rw[Bool.not_eq_true'] at b5
     have e1:y=y1:=Nat.eq_of_beq_eq_true b1
     have e2:y=y2:=Nat.eq_of_beq_eq_true b2
     have e3:=eqON_spec b4
     subst e1;subst e2
     have hfd:s.sto.get d=none:=by
      unfold freeD at hf
      rw[e3] at hf
      simp only[Bool.and_eq_true] at hf
      simpa using hf.1
     have hd9:Nat.blt d 999999=true:=by
      unfold freeD at hf
      rw[e3] at hf
      simp only[Bool.and_eq_true] at hf
      exact hf.2
     have hyg:Sto.get [(y,sc)] y=some sc:=by rw[Sto.get_cons (Nat.le_of_ble_eq_true b6),Nat.beq_refl];rfl
     have hdn:Nat.blt d Γ.n=true:=by rw[e3] at hd;exact hd
     have hc:stepCallX P Γ.n o (.callX [] (some (y,d)) (.row y off len sz) [(y,sc)]) s=some (⟨setD s.env o.dst (.row d off len sz),(d,sc)::s.sto⟩,[ContractX P f (ps.map EV.pv) [] (.row y off len sz) [(y,sc)]]):=by
      unfold stepCallX
      rw[hop]
      simp only[hcl,nilX,cloX,List.append_nil,argsX_no _ _ b5 hps,hd,handOk,List.all_nil,List.all_cons,b3,b6,hyg,Nat.beq_refl,cond_true,hfd,assocR,ren1,hdn,updSto_nil,sinX,Option.map_some,eqON,Option.isSome_none,Bool.false_or,Bool.and_true,Bool.false_and,givenBy,List.filter_nil,List.map_nil,killAll]
     refine stepCallX_sound hs hr hc hob (fun a' w' h=>hk a' w' ?_)
     unfold hAdd hSto
     simp only[e3,hd9,cond_true] at h ⊢
     exact h
   ·cases hst
  ·cases hst
  ·cases hst
  ·exact gen hst
 ·exact gen hst
theorem hRes_sound(hT:TOk P T)(hs:∀r,dom Γ.sin r→Γ.n≤r)(hr:Rel Γ s a w)(hst:hRes P T Γ.n ops o h s=some res)(hob:Alls res.ob)
  {K:Act→World→Prop} {Q:Exit→Act→World→Prop} (hk:∀a' w',Rel Γ (hAdd s o.dst res) a' w'→K a' w') :
  if Region.wanted o (yielded ops a.tmps) then o.wp P a w K Q∨(o.asks P a w∧LetsOut Q) else K (a.put o.dst undef) w:=by
 unfold hRes at hst
 cases hd:dstOk Γ.n o.dst with
 |false=>simp[hd] at hst
 |true =>
  simp only[hd,cond_true] at hst
  split at hst
  ·rename_i hg
   have hw:Region.wanted o (yielded ops a.tmps)=true:=by simp[Region.wanted,hg]
   rw[if_pos hw]
   split at hst
   ·rename_i res' hres
    cases hf:freeD s o.dst res'.new with
    |false=>simp[hf] at hst
    |true =>
     simp only[hf,cond_true] at hst
     injection hst with hst;subst hst
     exact .inl (hU_sound hT hs hr hres hf hd hob hk)
   ·cases hst
  ·rename_i j want hg
   split at hst
   ·rename_i t ht
    split at hst
    ·rename_i b hb
     have hy:yielded ops a.tmps j=some b:=by
      obtain⟨β,I,hr'⟩:=hr
      have hv:Rd I w (.bool b) (a.tmps.getD t undef):=hr'.env t _ hb
      have hv':a.tmps.getD t undef = .bool b:=by generalize a.tmps.getD t undef=v at hv;cases hv;rfl
      unfold yielded
      rw[ht]
      simp only[Option.bind_some]
      rw[Array.getD_eq_getD_getElem?] at hv'
      cases hx:a.tmps[t]? with
      |none=>rw[hx] at hv';simp[undef] at hv'
      |some v=>rw[hx] at hv';simp at hv';subst hv';rfl
     have hw:Region.wanted o (yielded ops a.tmps)=(b==want):=by
      simp only[Region.wanted,hg,hy]
      cases b<;>cases want<;>rfl
     split at hst
     ·injection hst with hst;subst hst
      have hbw:b = !want:=hob
      rw[if_neg (by rw[hw,hbw];cases want<;>simp)]
      obtain⟨β,I,hr'⟩:=hr
      exact hk _ _ ⟨β,I,hr'.put (dstOk_spec hd) (rd_undef _ _)⟩
     ·split at hst
      ·rename_i res' hres
       cases hf:freeD s o.dst res'.new with
       |false=>simp[hf] at hst
       |true =>
        simp only[hf,cond_true] at hst
        injection hst with hst;subst hst
        obtain⟨g1,g2⟩:=hob.cons
        rw[if_pos (by rw[hw,g1];simp)]
        exact .inl (hU_sound hT hs hr hres hf hd g2 hk)
      ·cases hst
    ·rename_i vs hb
     split at hst
     ·injection hst with hst;subst hst
      obtain⟨β,I,hr'⟩:=hr
      rw[if_neg (by rw[yields_tup ht (hr'.env t _ hb) hg];simp)]
      exact hk _ _ ⟨β,I,hr'.put (dstOk_spec hd) (rd_undef _ _)⟩
     ·cases hst
    ·cases hst
   ·cases hst
abbrev HR:=Nat×Oper×XR
def app(U:List Nat):List HR→St→St
 |[],s=>s
 |(i,o,res)::rs,s=>app U rs (if i∈U then s else hAdd s o.dst res)
def dstsOk:List HR→Prop
 |[]=>True
 |(_,o,_)::rs=>(∀d,o.dst=some d→∀x∈rs,x.2.1.dst≠some d)∧dstsOk rs
def wsite(x:HR):Option Nat :=
 match x.2.2.new,x.2.1.dst with
 |some _,some d=>some d
 |_,_=>x.2.2.wr.map (·.1)
theorem hAdd_env(s:St)(dst:Option Nat)(res:XR)(t:Nat):(hAdd s dst res).env.get t=if dst=some t then some res.val else s.env.get t:=by
 cases dst with
 |none=>simp[hAdd,setD]
 |some d =>
  simp only[hAdd,setD,Env.get]
  cases hb:Nat.beq d t with
  |true=>have:d=t:=Nat.eq_of_beq_eq_true hb;subst this;simp
  |false =>
   have:d≠t:=by intro e;subst e;simp at hb
   simp[this]
theorem hSto_other(sto:Sto)(x:HR)(r:Nat)(h:wsite x≠some r):(hSto sto x.2.1.dst x.2.2).get r=sto.get r:=by
 unfold wsite at h
 unfold hSto
 split
 ·rename_i sc d hn hd
  simp only[hn,hd] at h
  cases hd9:Nat.blt d 999999 with
  |false=>rfl
  |true =>
   simp only[cond_true]
   rw[Sto.get_cons (Nat.le_of_ble_eq_true hd9),beq_ne (fun e=>h (by rw[e]))]
   rfl
 ·rename_i hne
  split at h
  ·rename_i sc d hn hd
   exact absurd hd (hne _ _ hn)
  ·split
   ·rename_i r' sc hw
    rw[hw] at h
    simp only[Option.map_some,ne_eq,Option.some.injEq] at h
    rw[Sto.get_set,if_neg (fun e=>h e.1.symm)]
   ·rfl
theorem hSto_same(sto sto':Sto)(x:HR)(r:Nat)(h:sto'.get r=sto.get r):(hSto sto' x.2.1.dst x.2.2).get r=(hSto sto x.2.1.dst x.2.2).get r:=by
 unfold hSto
 split
 ·rename_i sc d _ _
  cases hd9:Nat.blt d 999999 with
  |false=>exact h
  |true =>
   simp only[cond_true]
   rw[Sto.get_cons (Nat.le_of_ble_eq_true hd9),Sto.get_cons (Nat.le_of_ble_eq_true hd9),h]
 ·split
  ·rw[Sto.get_set,Sto.get_set,h]
  ·exact h
theorem app_env_none(U:List Nat)(t:Nat):∀(rs:List HR) (s:St),(∀x∈rs,x.2.1.dst=some t→x.1∈U)→(app U rs s).env.get t=s.env.get t
 |[],s,_=>rfl
 |(i,o,res)::rs,s,h=>by
  simp only[app]
  rw[app_env_none U t rs _ (fun x hx=>h x (by simp[hx]))]
  by_cases hi:i∈U
  ·rw[if_pos hi]
  ·rw[if_neg hi,hAdd_env,if_neg (fun e=>hi (h (i,o,res) (by simp) e))]
theorem app_env_some(U:List Nat)(t:Nat)(x:HR)(ht:x.2.1.dst=some t)(hu:x.1 ∉ U)(rs:List HR):∀(s:St),dstsOk rs→x∈rs→(app U rs s).env.get t=some x.2.2.val:=by
 induction rs with
 |nil=>intro s _ hx;cases hx
 |cons y rs ih =>
  intro s hd hx
  obtain⟨i,o,res⟩:=y
  show(app U rs (if i∈U then s else hAdd s o.dst res)).env.get t=_
  rcases List.mem_cons.1 hx with hx|hx
  ·subst hx
   rw[app_env_none U t rs _ (fun y hy e=>absurd e (hd.1 t ht y hy)),if_neg hu,hAdd_env,if_pos ht]
  ·exact ih _ hd.2 hx
theorem app_sto_ext(U U':List Nat)(r:Nat):∀(rs:List HR) (s s':St),(∀y∈rs,wsite y=some r→(y.1∈U↔y.1∈U'))→s'.sto.get r=s.sto.get r→(app U' rs s').sto.get r=(app U rs s).sto.get r
 |[],s,s',_,h=>h
 |(i,o,res)::rs,s,s',hU,h=>by
  simp only[app]
  refine app_sto_ext U U' r rs _ _ (fun y hy=>hU y (by simp[hy])) ?_
  by_cases hw:wsite (i,o,res)=some r
  ·have hi:=hU (i,o,res) (by simp) hw
   by_cases h1:i∈U
   ·rw[if_pos h1,if_pos (hi.1 h1)];exact h
   ·rw[if_neg h1,if_neg (fun h2=>h1 (hi.2 h2))]
    exact hSto_same s.sto s'.sto (i,o,res) r h
  ·have h1:∀(b:Prop) [Decidable b] (s:St),(if b then s else hAdd s o.dst res).sto.get r=s.sto.get r:=fun b _ s=>by
    split
    ·rfl
    ·exact hSto_other s.sto (i,o,res) r hw
   rw[h1,h1];exact h
theorem app_sto_none(U:List Nat)(r:Nat):∀(rs:List HR) (s:St),(∀y∈rs,wsite y=some r→y.1∈U)→(app U rs s).sto.get r=s.sto.get r
 |[],s,_=>rfl
 |(i,o,res)::rs,s,h=>by
  simp only[app]
  rw[app_sto_none U r rs _ (fun y hy=>h y (by simp[hy]))]
  by_cases hi:i∈U
  ·rw[if_pos hi]
  ·rw[if_neg hi]
   exact hSto_other s.sto (i,o,res) r (fun e=>hi (h (i,o,res) (by simp) e))
theorem app_append(U:List Nat):∀(pre post:List HR) (s:St),app U (pre++post) s=app U post (app U pre s)
 |[],_,_=>rfl
 |(i,o,res)::pre,post,s=>by
  simp only[List.cons_append,app]
  exact app_append U pre post _
theorem app_sto_at{U:List Nat}{pre post:List HR}{x:HR}{r:Nat}(s:St)(h1:∀y∈pre,wsite y=some r→y.1 ∉ U)(h2:∀y∈post,wsite y=some r→y.1∈U)(hx:x.1∈U) :
  (app U (pre++x::post) s).sto.get r=(app [] pre s).sto.get r:=by
 rw[app_append]
 obtain⟨i,o,res⟩:=x
 show(app U post (if i∈U then app U pre s else hAdd (app U pre s) o.dst res)).sto.get r=_
 rw[if_pos hx,app_sto_none U r post _ h2]
 exact app_sto_ext [] U r pre s s (fun y hy hw=>⟨fun h=>(by cases h),fun h=>absurd h (h1 y hy hw)⟩) rfl
theorem app_erase{U U':List Nat}{rs pre post:List HR}{x:HR}(hrs:rs=pre++x::post)(hd:dstsOk rs)(hU:∀j,j∈U'↔j∈U∧j≠x.1)(huniq:∀y∈rs,y.1=x.1→y=x)(hnp:x ∉ pre)(hxU:x.1∈U)
  (hw1:∀r,wsite x=some r→∀y∈pre,wsite y=some r→y.1 ∉ U) (hw2:∀r,wsite x=some r→∀y∈post,wsite y=some r→y.1∈U) (hnq:x ∉ post) (s:St) :
  Like (hAdd (app U rs s) x.2.1.dst x.2.2) (app U' rs s):=by
 have hx:x∈rs:=by rw[hrs];simp
 have hx':x.1 ∉ U':=fun h=>((hU _).1 h).2 rfl
 refine⟨fun t => ?_,fun r => ?_⟩
 ·rw[hAdd_env]
  by_cases ht:x.2.1.dst=some t
  ·rw[if_pos ht,app_env_some U' t x ht hx' rs s hd hx]
  ·rw[if_neg ht]
   by_cases hy:∃y∈rs,y.2.1.dst=some t∧y.1 ∉ U
   ·obtain⟨y,hy,hyt,hyU⟩:=hy
    rw[app_env_some U t y hyt hyU rs s hd hy,app_env_some U' t y hyt (fun h=>hyU ((hU _).1 h).1) rs s hd hy]
   ·have h1:∀y∈rs,y.2.1.dst=some t→y.1∈U:=fun y hy' ht'=>Classical.byContradiction fun hc=>hy ⟨y,hy',ht',hc⟩
    rw[app_env_none U t rs s h1,app_env_none U' t rs s (fun y hy' ht'=>(hU _).2 ⟨h1 y hy' ht',fun e=>ht (by rw[←huniq y hy' e];exact ht')⟩)]
 ·by_cases hw:wsite x=some r
  ·have e1:(app U' rs s).sto.get r=(hSto (app U' pre s).sto x.2.1.dst x.2.2).get r:=by
    rw[hrs,app_append]
    obtain⟨i,o,res⟩:=x
    show(app U' post (if i∈U' then app U' pre s else hAdd (app U' pre s) o.dst res)).sto.get r=_
    rw[if_neg hx',app_sto_none U' r post _ (fun y hy hwy=>(hU _).2 ⟨hw2 r hw y hy hwy,fun e=>hnq (by rw[←huniq y (by rw[hrs];simp[hy]) e];exact hy)⟩)]
    rfl
   rw[e1]
   show _=(hSto (app U rs s).sto x.2.1.dst x.2.2).get r
   refine hSto_same _ _ x r ?_
   rw[hrs,app_sto_at s (hw1 r hw) (hw2 r hw) hxU]
   exact app_sto_ext [] U' r pre s s (fun y hy hwy=>⟨fun h=>(by cases h),fun h=>absurd ((hU _).1 h).1 (hw1 r hw y hy hwy)⟩) rfl
  ·show _=(hSto (app U rs s).sto x.2.1.dst x.2.2).get r
   rw[hSto_other _ x r hw]
   refine app_sto_ext U U' r rs s s (fun y hy hwy=>⟨fun h=>(hU _).2 ⟨h,fun e=>hw (by rw[←huniq y hy e];exact hwy)⟩,fun h=>((hU _).1 h).1⟩) rfl
def HRun(P:Program)(T:Tab)(n:Nat)(ops:Array Oper):List HR→List Hint→St→Prop
 |[],_,_=>True
 |(i,o,res)::rs,hs,s=>ops[i]? = some o∧hRes P T n ops o (hs.headD .none) s=some res∧HRun P T n ops rs hs.tail (hAdd s o.dst res)
theorem evalO_congr{env env':Env}(x:Operand)(h:∀t,x = .tmp t→env'.get t=env.get t):evalO env' x=evalO env x:=by
 cases x with
 |tmp t=>exact h t rfl
 |const v=>rfl
 |func f=>rfl
 |global g=>rfl
theorem rdOf_congr{ρ ρ':Operand→Option EV}{op:Op}(hx:∀x∈op.operands,ρ' x=ρ x):rdOf ρ' op=rdOf ρ op:=by
 cases op<;>try rfl
 case load t x=>simp only[rdOf];rw[hx x (by simp[Op.operands])]
def siteOf(ρ:Operand→Option EV):Op→Option Nat
 |.load _ x=>match ρ x with
  |some (.ptr r _)=>some r
  |_=>none
 |.store _ x _=>match ρ x with
  |some (.ptr r _)=>some r
  |_=>none
 |_=>none
theorem hU_congr{s s':St}(he:∀t,Operand.tmp t∈o.op.operands→s'.env.get t=s.env.get t)
  (hs:∀r,siteOf (evalO s.env) o.op=some r→s'.sto.get r=s.sto.get r):hU P T o h s'=hU P T o h s:=by
 have hev:∀x∈o.op.operands,evalO s'.env x=evalO s.env x:=fun x hx=>evalO_congr x (fun t ht=>he t (ht ▸ hx))
 have hop:opRun T s'.sto o.dst o.op (evalO s'.env) h=opRun T s.sto o.dst o.op (evalO s.env) h:=opRun_congr hev (fun t x r off ho hx=>hs r (by rw[ho];simp[siteOf,hx]))
 have hrd:rdOf (evalO s'.env) o.op=rdOf (evalO s.env) o.op:=rdOf_congr hev
 have hlift:liftR (evalO s'.env) o.op (opRun T s'.sto o.dst o.op (evalO s'.env) h)=liftR (evalO s.env) o.op (opRun T s.sto o.dst o.op (evalO s.env) h):=by
  rw[hop];unfold liftR;rw[hrd]
 unfold hU
 split
 ·rename_i t x y ho
  rw[storeAt_congr hev (fun t x y r off ho hx=>hs r (by rw[ho];simp[siteOf,hx]))]
 ·rename_i c hc
  rw[hc] at hev
  have harg:pvArgs s'.env c.args.toList=pvArgs s.env c.args.toList:=pvArgs_congr (fun x hx=>hev x (by simp[Op.operands,Call.operands];exact .inr (by simpa using hx)))
  split
  ·rw[harg]
  ·rfl
  ·rfl
  ·exact hlift
 ·exact hlift
theorem hU_site(hst:hU P T o h s=some res){r:Nat}(hr:siteOf (evalO s.env) o.op=some r):res.rd=some r∨(res.new=none∧res.wr.map (·.1)=some r):=by
 unfold hU at hst
 split at hst
 ·rename_i t x y hop
  right
  split at hst
  ·rename_i r' sc ob hsa
   injection hst with hst;subst hst
   refine⟨rfl,?_⟩
   rw[hop] at hr hsa
   unfold siteOf at hr
   simp only at hr
   split at hr
   ·rename_i q off hq
    injection hr with hr;subst hr
    rw[storeAt_site hsa hq];rfl
   ·cases hr
  ·cases hst
 ·rename_i c hop
  rw[hop] at hr
  cases hr
 ·left
  unfold liftR at hst
  split at hst
  ·injection hst with hst;subst hst
   show rdOf (evalO s.env) o.op=some r
   rename_i hns hnc _ _ _
   cases ho:o.op<;>rw[ho] at hr<;>first|(cases hr;done)|skip
   ·simpa[siteOf,rdOf] using hr
   ·rename_i t x y;exact absurd ho (hns t x y)
  ·cases hst
end
end Go.Proofs.YtboilcfohmmpbaaGreatDoor.Sym
