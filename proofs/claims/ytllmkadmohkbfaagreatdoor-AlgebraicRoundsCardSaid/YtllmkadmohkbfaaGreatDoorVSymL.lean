/- Lemmas for the statements of this seat. -/
import Derived.Test.YtllmkadmohkbfaaGreatDoorVSymK
namespace Go.Proofs.YtllmkadmohkbfaaGreatDoor.Sym
open Go Go.RowKit
section
variable {P:Program} {T:kL} {Γ:Ctx} {s s':St} {a:Act} {w:World} {β:Nat→Option Nat} {I:Nat→Prop} {o:Oper} {h:Hint} {ob:List Prop}
theorem AO{b sz:Nat} : ∀(ys:List (List PV)) (o:Nat) (f:Nat→Nat→Value),(∀row∈ys,row.length=sz) →
  (∀(i j:Nat) row x,ys[i]? = some row→row[j]? = some x→w.cell? ⟨b,o+(i*sz+j),none⟩=some (f i j)∧x.one=true∧Rd I w x (f i j)) →
  ∃us:List Value,(∀(j:Nat) u,us[j]? = some u→w.cell? ⟨b,o+j,none⟩=some u)∧bV I w ys.flatten us
 |[],o,f,_,_=>⟨[],fun j u h=>by simp at h,rfl,fun j c u h=>by simp at h⟩
 |row::ys,o,f,hl,h=>by
  have xK:row.length=sz:=hl row (by simp)
  obtain⟨us,h1,h2⟩:=AO ys (o+sz) (fun i j=>f (i+1) j) (fun r hr=>hl r (by simp[hr])) (fun i j r x hi hj=>by
   have:=h (i+1) j r x (by simpa using hi) hj
   rw[show o+sz+(i*sz+j)=o+((i+1)*sz+j) from by rw[Nat.add_mul];omega]
   exact this)
  have uG:∀(j:Nat),((List.range sz).map (f 0)++us)[j]? = if j<sz then some (f 0 j) else us[j-sz]? := by
   intro j
   rw[List.getElem?_append]
   simp only[List.length_map,List.length_range]
   by_cases hj:j<sz
   ·rw[if_pos hj,if_pos hj,List.getElem?_map,List.getElem?_range hj];rfl
   ·rw[if_neg hj,if_neg hj]
  refine⟨(List.range sz).map (f 0)++us,fun j u hu => ?_,by simp[xK];simpa using h2.1,fun j c u hc hu => ?_⟩
  ·rw[uG] at hu
   by_cases hj:j<sz
   ·rw[if_pos hj] at hu
    injection hu with hu;subst hu
    have hx:row[j]? = some row[j]:=List.getElem?_eq_getElem (by omega)
    have:=(h 0 j row _ rfl hx).1
    simpa using this
   ·rw[if_neg hj] at hu
    have:=h1 _ u hu
    rw[show o+sz+(j-sz)=o+j from by omega] at this
    exact this
  ·rw[uG] at hu
   rw[List.flatten_cons,List.getElem?_append] at hc
   by_cases hj:j<sz
   ·rw[if_pos hj] at hu
    rw[if_pos (by omega)] at hc
    injection hu with hu;subst hu
    exact(h 0 j row c rfl hc).2
   ·rw[if_neg hj] at hu
    rw[if_neg (by omega),xK] at hc
    exact h2.2 _ c u hc hu
theorem wk{sz:Nat} : ∀{ys:List (List PV)},(∀row∈ys,row.length=sz)→ys.flatten.length=ys.length*sz
 |[],_=>by simp
 |row::ys,h=>by
  have:=wk (sz:=sz) (ys:=ys) (fun r hr=>h r (by simp[hr]))
  have:=h row (by simp)
  simp only[List.flatten_cons,List.length_append,List.length_cons,Nat.succ_mul]
  omega
def Src(w:World)(I:Nat→Prop)(y:Value)(m:Nat)(qs:List PV):Prop :=
 (∃ao c,y = .slice ao 0 c∧m=0∧qs=[])∨∃b o c us,y = .slice (some ⟨b,o,none⟩) m c∧(∀(j:Nat) u,us[j]? = some u→w.cell? ⟨b,o+j,none⟩=some u)∧bV I w qs us
theorem AP{ys:List (List PV)}{v:Value}{sz:Nat}(hv:Rd I w (.list ys) v)(hs:∀row∈ys,row.length=sz):Src w I v ys.length ys.flatten:=by
 cases hv with
 |nil ao c=>exact .inl ⟨ao,c,rfl,rfl,rfl⟩
 |list _ b o c s f hc hb Tc ho hh =>
  have lI:∀row∈ys,row.length=s:=fun row hr=>by
   obtain⟨i,hi⟩:=List.mem_iff_getElem?.1 hr
   exact Tc i row hi
  obtain⟨us,h1,h2⟩:=AO (w:=w) (I:=I) (b:=b) (sz:=s) ys o f lI (fun i j row x hi hj=>⟨(ho i j row x hi hj).2,(ho i j row x hi hj).1,hh i j row x hi hj⟩)
  exact .inr ⟨b,o,c,us,rfl,h1,h2⟩
theorem I7{r m sz Lb:Nat}{v:Value}{L:Nat→Prop}{qs:List PV}(hv:RE β L I w (.row r 0 m Lb) v)(hb:RB β L I w r (qs.map EV.pv))(hl:qs.length=m*sz):Src w I v m qs:=by
 obtain⟨_,⟨hn,rfl,rfl⟩|⟨b,c,oe,rfl,_⟩⟩:=hv
 ·exact .inl ⟨none,0,rfl,rfl,List.eq_nil_of_length_eq_zero (by simpa using hl)⟩
 ·obtain⟨arr,el,hg,PM,hc⟩:=hb.block oe
  refine .inr ⟨b,0,c,arr.toList.take qs.length,rfl,fun j u hu => ?_,by simp at PM ⊢;omega,fun j p u hp hu => ?_⟩
  ·rw[List.getElem?_take] at hu
   split at hu
   ·rw[Nat.zero_add,cell_of_row w b j arr el (0,0) hg];simpa using hu
   ·cases hu
  ·rw[List.getElem?_take] at hu
   split at hu
   ·obtain⟨u',g1,g2,g3⟩:=hc j (.pv p) (by rw[List.getElem?_map,hp];rfl)
    have:u'=u:=by simpa[g1] using hu
    subst this
    exact⟨PV.pE g3 g2,g3⟩
   ·cases hu
theorem nO{t e:TypeId}{de:TD}(hu:P.underlying t=some (.slice e))(hd:qN P e de)(ty:TypeId)(ao bo:Option Addr)(len cap c:Nat)(hc:len≤cap) :
  (Builtin.append_ #[t,t] ty #[.slice ao len cap,.slice bo 0 c]).run P w = .ok (.slice ao len cap) w:=by
 cases ao<;>cases bo<;>simp[Builtin.append_,run_underlying hu,hd.run_sizeOf w,Builtin.lenOf,Builtin.firstCells,hc,loadCells,loadCellsFrom,storeCells]
theorem s6{β':Nat→Option Nat}{L':Nat→Prop}{d b:Nat}{ps:List PV}{arr:Array Value}{el:TypeId}(hg:w.heap[b]? = some (.cells arr el (0,0)))
  (hc:∀(j:Nat) p,ps[j]? = some p→∃u,arr[j]? = some u∧u.oneCell'=true∧Rd I w p u) (hb:β' d=some b):RB β' L' I w d (ps.map EV.pv):=by
 refine .inr ⟨b,arr,el,hb,hg,fun j e he => ?_⟩
 rw[List.getElem?_map] at he
 cases hj:ps[j]? with
 |none=>simp[hj] at he
 |some p =>
  simp[hj] at he
  subst he
  exact hc j p hj
theorem vi{r b:Nat}{L:Nat→Prop}{ps:List PV}(h:RB β L I w r (ps.map EV.pv))(hb:β r=some b) :
  ∃arr el,w.heap[b]? = some (.cells arr el (0,0))∧ps.length≤arr.size∧∀(j:Nat) p,ps[j]? = some p→∃u,arr[j]? = some u∧u.oneCell'=true∧Rd I w p u:=by
 obtain⟨arr,el,h1,h2,h3⟩:=h.block hb
 refine⟨arr,el,h1,by simpa using h2,fun j p hp=>h3 j (.pv p) (by rw[List.getElem?_map,hp];rfl)⟩
theorem wo(r:Nat)(hr:r<999999)(sc:SC):∀(s:aS),dE r (aS.HL s r sc)=dE r s
 |[]=>rfl
 |(r',c)::s=>by
  have eb:Nat.blt r 999999=true:=Nat.ble_eq_true_of_le hr
  simp only[aS.HL]
  cases hb:Nat.beq r' r with
  |true=>simp[dE,hb,eb]
  |false=>simp[dE,hb,wo r hr sc s]
theorem yH(r:Nat)(sc:SC)(s:aS):dE r (aS.set s r sc)=dE r s:=by
 unfold aS.set
 by_cases hr:r<999999
 ·rw[show Nat.blt r 999999=true from Nat.ble_eq_true_of_le hr]
  exact wo r hr sc s
 ·rw[show Nat.blt r 999999=false from Bool.eq_false_iff.2 (fun h=>hr (Nat.le_of_ble_eq_true h))]
  rfl
theorem lQ(hr:dD Γ s a w β I){r d len sz:Nat}{out:List PV}{v:Value}(uR:d<Γ.n)(wq:¬bS Γ.sin d)(wu:¬bS (dE r s.aG) d){ob:Option Nat}
  (hb:∀b,ob=some b→b<w.heap.size∧¬I b∧Γ.Nw b∧∀x,bS (dE r s.aG) x→β x≠some b)
  (I5:RB (fun x=>if x=d then ob else β x) (fun x=>bS (dE r s.aG) x∨x=d) I w d (out.map EV.pv))
  (hv:(ob=none∧len=0∧v = .slice none 0 0)∨∃b c,ob=some b∧v = .slice (some ⟨b,0,none⟩) len c∧len≤c∧∃el n,w.shape? b=some (el,n)∧0+c*sz≤n) :
  Rel Γ ⟨oC (kill r s).env (some d) (.row d 0 len sz),(d,.pure out)::(kill r s).aG⟩ (a.put (some d) v) w:=by
 have h1:=hr.kill r
 have sP:d<999999:=Nat.lt_of_lt_of_le uR Γ.small
 have h2:=h1.site (d:=d) (sc := .pure out) sP wu wq (β':=fun x=>if x=d then ob else β x) (fun x hx=>if_neg hx) (fun b fz=>hb b (by simpa using fz)) I5
 refine⟨_,_,h2.put (dst:=some d) (fun d' PL=>by injection PL with PL;rw[←PL];exact uR) ⟨(dQ sP).2 (.inl rfl),?_⟩⟩
 simpa using hv
theorem vj{t e AQ:TypeId}{i:TypeInfo}(ht:P.underlying t=some (.slice e))(hi:P.info? e=some i)(ty:TypeId)
  (g lJ uI:Nat) (cur:Array Value) (hg:w.heap[g]? = some (.cells cur AQ (0,0)))
  (ad:Addr) (m c:Nat) (news:List Value) (hl:news.length=m*i.size) (LD:∀j u,news[j]? = some u→w.cell? (ad.add j)=some u) (h1:∀u∈news,u.oneCell'=true)
  (s7:lJ+m≤uI) (rE:lJ*i.size+news.length≤cur.size) :
  (Builtin.append_ #[t,t] ty #[.slice (some ⟨g,0,none⟩) lJ uI,.slice (some ad) m c]).run P w =
   .ok (.slice (some ⟨g,0,none⟩) (lJ+m) uI) (w.setRow g (cur.toList.take (lJ*i.size)++news++cur.toList.drop (lJ*i.size+news.length)).toArray):=by
 have hf:=run_firstCells_some (P:=P) w i.size m ad m c news hl LD
 have aI:=run_storeCells_at P g (lJ*i.size) AQ news 0 cur w hg (by simpa using rE) h1
 simp only[Nat.add_zero] at aI
 simp[Builtin.append_,run_underlying ht,sizeOf,typeInfo,hi,Builtin.lenOf,s7,hf,Addr.add_lit,aI]
def FI(aG:aS)(r:Nat)(e:EV):Option (Nat×List PV×Option (List (List PV))) :=
 match e with
 |.row r2 0 m _=>bif Nat.beq r2 r then none else match aG.get r2 with
  |some (.pure qs)=>some (m,qs,none)
  |_=>none
 |.pv (.list ys)=>some (ys.length,ys.flatten,some ys)
 |_=>none
def FJ(m sz:Nat)(qs:List PV):Option (List (List PV))→Prop
 |none=>qs.length=m*sz
 |some ys=>∀row∈ys,row.length=sz
abbrev QM:=aS→Nat→EV→Option (Nat×List PV×Option (List (List PV)))
def wv(src:QM)(T:kL)(n:Nat)(o:Oper)(h:Hint)(s:St):Option (St×List Prop) :=
 match o.op,o.dst,h with
 |.call c,some d,.app uJ out=>match c.callee,c.args.toList,c.argTypes.toList with
  |.builtin .append,[x,y],[t1,t2]=>bif Nat.beq t1 t2&&Nat.blt d n then
    match T.get t1 with
    |some dt=>match dt.kind with
     |.slice el=>match T.get el,dw s.env x,dw s.env y with
      |some de,some (.row r 0 len sz),some ey=>match s.aG.get r,src s.aG r ey,(kill r s).aG.get d with
       |some (.pure ps),some (m,qs,ys),none=>bif Nat.beq sz de.size&&Nat.ble 1 sz&&Nat.blt r n then
         some (⟨oC (kill r s).env (some d) (.row d 0 uJ sz),(d,.pure out)::(kill r s).aG⟩,
          [ps.length=len*sz,FJ m sz qs ys,len+m=uJ,ps++qs=out,uJ*de.bytes≤140737488355328,uJ<9223372036854775808])
        else none
       |_,_,_=>none
      |_,_,_=>none
     |_=>none
    |none=>none
   else none
  |_,_,_=>none
 |_,_,_=>none
theorem s8{src:QM}(HS:∀{β:Nat→Option Nat} {I:Nat→Prop},dD Γ s a w β I→∀{r m sz:Nat} {ey:EV} {v:Value} {qs:List PV} {ys:Option (List (List PV))},src s.aG r ey=some (m,qs,ys)→FJ m sz qs ys→RE β (bS s.aG) I w ey v→Src w I v m qs∧qs.length=m*sz)(hT:nM P T)(hs:∀r,bS Γ.sin r→Γ.n≤r)(hr:Rel Γ s a w)(aI:wv src T Γ.n o h s=some (s',ob))(cr:dP ob){K:Act→World→Prop}{Q:Exit→Act→World→Prop}
  (hk:∀a' w',Rel Γ s' a' w'→K a' w'):o.wp P a w K Q:=by
 obtain⟨β,I,hr⟩:=hr
 unfold wv at aI
 split at aI
 ·rename_i c d uJ out uH FH
  split at aI
  ·rename_i x y t1 t2 sD kg HH
   cases qO:(Nat.beq t1 t2&&Nat.blt d Γ.n) with
   |false=>simp[qO] at aI
   |true =>
    simp only[qO,cond_true] at aI
    simp only[Bool.and_eq_true] at qO
    have kh:t1=t2:=Nat.eq_of_beq_eq_true qO.1
    have uR:d<Γ.n:=Nat.le_of_ble_eq_true qO.2
    subst kh
    split at aI
    ·rename_i dt QN
     split at aI
     ·rename_i el Kq
      obtain⟨un,hu,_,hf⟩:=(hT t1 dt QN).under
      rw[Kq] at hf
      have hf:un = .slice el:=hf
      subst hf
      split at aI
      ·rename_i de r len sz ey oB hx hy
       split at aI
       ·rename_i ps m qs ys ov eV uQ
        cases tU:(Nat.beq sz de.size&&Nat.ble 1 sz&&Nat.blt r Γ.n) with
        |false=>simp[tU] at aI
        |true =>
         simp only[tU,cond_true] at aI
         simp only[Bool.and_eq_true] at tU
         have lI:sz=de.size:=Nat.eq_of_beq_eq_true tU.1.1
         have Te:1≤sz:=Nat.le_of_ble_eq_true tU.1.2
         have Oy:r<Γ.n:=Nat.le_of_ble_eq_true tU.2
         injection aI with aI;injection aI with h1 h2
         subst h1;subst h2
         obtain⟨g1,cr⟩:=cr.cons
         obtain⟨g2,cr⟩:=cr.cons
         obtain⟨g3,cr⟩:=cr.cons
         obtain⟨g4,cr⟩:=cr.cons
         obtain⟨g5,g6⟩:=cr.cons
         have g6:uJ<9223372036854775808:=g6
         subst g3;subst g4
         obtain⟨i,hi,uP,On,z,hz,_,Hy,_⟩:=(hT el de oB).info
         have hex:=hr.Fg x _ hx
         have I6:=hr.Fg y _ hy
         obtain⟨xG,xK⟩:=hex
         have I5:=(hr.aG.1 r _ ov).1
         have QO:¬bS Γ.sin r:=fun h=>by have:=hs r h;omega
         have wq:¬bS Γ.sin d:=fun h=>absurd (hs d h) (Nat.not_le_of_lt uR)
         have wu:¬bS (kill r s).aG d:=by unfold bS;rw[uQ];simp
         have Tf:Src w I (a.eval y) m qs∧qs.length=m*sz:=HS hr eV g2 I6
         obtain⟨LF,Cw⟩:=Tf
         have Lc:∀v' w',(Builtin.append_ #[t1,t1] o.type #[a.eval x,a.eval y]).run P w = .ok v' w'→Rel Γ ⟨oC (kill r s).env (some d) (.row d 0 (len+m) sz),(d,.pure (ps++qs))::(kill r s).aG⟩ (a.put (some d) v') w'→o.wp P a w K Q:=by
          intro v' w' aq kl
          have mF:=zK kg
          have wh:=zK HH
          obtain⟨cl,args,LA⟩:=c
          simp only at sD mF wh
          subst sD;subst mF;subst wh
          unfold Oper.wp execOp
          simp only[uH,resolve,invoke,builtin,Sem.run_bind,Sem.run_pure,Result.andThen_ok,List.map_toArray,List.map_cons,List.map_nil,aq]
          show K (a.put o.dst v') w'
          rw[FH]
          exact hk _ _ kl
         have AR:(len+m)*i.bytes≤140737488355328:=by rw[On];exact g5
         have Kr:len+m≤maxLen:=by unfold maxLen;omega
         have Tg:∀b,β r=some b→∀x,bS (dE r s.aG) x→β x≠some b:=fun b hb x hx e =>
          (eR.1 hx).2 (hr.aG.2 x r b (eR.1 hx).1 xG e hb)
         rcases xK with ⟨PI,FA,Cv⟩|⟨b,cap,oe,Cv,Ok,Zk,nx,C4,rE⟩
         ·
          subst FA
          have LG:ps=[]:=List.eq_nil_of_length_eq_zero (by simpa using g1)
          subst LG
          rcases LF with ⟨ao,c2,xD,rfl,rfl⟩|⟨b2,o2,c2,us,xD,D3,uE⟩
          ·refine Lc _ _ (by rw[Cv,xD];exact nO hu (hT el de oB) _ none ao 0 0 c2 (Nat.le_refl _)) ?_
           exact lQ hr (ob:=none) uR wq wu (fun b hb=>by cases hb) (.inl ⟨by simp,rfl⟩) (.inl ⟨rfl,rfl,rfl⟩)
          ·have xE:us.length=m*i.size:=by rw[←uE.1,uP,←lI];exact Cw
           have Oz:∀(j:Nat) u,us[j]? = some u→w.cell? ((⟨b2,o2,none⟩:Addr).add j)=some u:=fun j u Lz=>by rw[iZ];exact D3 j u Lz
           rcases Nat.eq_zero_or_pos m with Hl|Hl
           ·subst Hl
            have nP:qs=[]:=List.eq_nil_of_length_eq_zero (by simpa using Cw)
            subst nP
            refine Lc _ _ (by rw[Cv,xD];exact nO hu (hT el de oB) _ none _ 0 0 c2 (Nat.le_refl _)) ?_
            exact lQ hr (ob:=none) uR wq wu (fun b hb=>by cases hb) (.inl ⟨by simp,rfl⟩) (.inl ⟨rfl,rfl,rfl⟩)
           ·have aq:=run_append_nil (P:=P) w t1 o.type el i z hu hi hz ⟨b2,o2,none⟩ m c2 us xE Oz Hl (by omega) (by simp only[Nat.zero_add] at AR;omega)
            refine Lc _ _ (by rw[Cv,xD];exact aq) ?_
            have AS:dD Γ s a (w.drew.alloc (.cells (us.toArray++Builtin.zeroCells z.cells (grownCap w m 0 el-m)) el)) β I :=
             hr.grow (((Cy.refl _ _).drew).alloc (Nat.le_refl _) _) (fun b h=>h) (fun b h => .inl h)
            have qQ:(w.drew.alloc (.cells (us.toArray++Builtin.zeroCells z.cells (grownCap w m 0 el-m)) el)).heap[w.heap.size]? = some (.cells (us.toArray++Builtin.zeroCells z.cells (grownCap w m 0 el-m)) el (0,0)):=heap_alloc_new w.drew _
            have CD:=grownCap_ge w m 0 el
            have oE:∀(j:Nat) p,(([]:List PV)++qs)[j]? = some p→∃u,(us.toArray++Builtin.zeroCells z.cells (grownCap w m 0 el-m))[j]? = some u∧u.oneCell'=true∧Rd I (w.drew.alloc (.cells (us.toArray++Builtin.zeroCells z.cells (grownCap w m 0 el-m)) el)) p u:=by
             intro j p hp
             simp only[List.nil_append] at hp
             have hj:j<us.length:=by rw[←uE.1];exact(List.getElem?_eq_some_iff.1 hp).1
             obtain⟨q1,q2⟩:=uE.2 j p us[j] hp (List.getElem?_eq_getElem hj)
             refine⟨us[j],by rw[Array.getElem?_append_left (by simpa using hj)];simp[hj],q2.lM q1,q2.mono (fun _ h=>h) (fun b o hI=>ig (Below.heap_alloc w.drew _ b (hr.ib b hI)) o)⟩
            refine lQ AS (ob:=some w.heap.size) uR wq wu (fun b hb => ?_) (s6 qQ oE (by simp)) (.inr ⟨w.heap.size,grownCap w m 0 el,rfl,by simp,by simpa using CD,el,_,by unfold World.shape?;rw[qQ],?_⟩)
            ·injection hb with hb;subst hb
             exact⟨by simp,fun hI=>Nat.lt_irrefl _ (hr.ib _ hI),(.inl hr.aF.size),fun x hx e=>Nat.lt_irrefl _ (hr.lb x _ (eR.1 hx).1 e)⟩
            ·simp only[Array.size_append,List.size_toArray,xE,size_zeroCells,Hy,uP,lI]
             rw[←Nat.add_mul]
             have:m+(grownCap w m 0 el-m)=grownCap w m 0 el:=by omega
             rw[this];omega
         ·
          have Hm:Γ.Nw b:=hr.new r b xG (.inl QO) oe
          have Kp:=((hr.aG.1 r _ ov).2 b oe)
          obtain⟨arr,AQ,hg,I1,AH⟩:=vi I5 oe
          have QP:w.shape? b=some (AQ,arr.size):=by unfold World.shape?;rw[hg]
          have D4:nx=arr.size:=by
           rw[QP] at C4;injection C4 with C4;injection C4 with h1 h2;exact h2.symm
          subst D4
          rcases Nat.eq_zero_or_pos m with Hl|Hl
          ·have xD:∃bo c2,a.eval y = .slice bo 0 c2:=by
            rcases LF with ⟨ao,c2,xD,_⟩|⟨b2,o2,c2,us,xD,_⟩
            ·exact⟨_,_,xD⟩
            ·exact⟨_,_,by rw[xD,Hl]⟩
           obtain⟨bo,c2,xD⟩:=xD
           subst Hl
           have nP:qs=[]:=List.eq_nil_of_length_eq_zero (by simpa using Cw)
           subst nP
           refine Lc _ _ (by rw[Cv,xD];exact nO hu (hT el de oB) _ _ _ len cap c2 Ok) ?_
           exact lQ hr (ob:=some b) uR wq wu (fun b' fz=>by injection fz with fz;subst fz;exact⟨Kp.1,Kp.2,Hm,Tg b oe⟩)
            (s6 hg (fun j p hp=>AH j p (by simpa using hp)) (by simp)) (.inr ⟨b,cap,rfl,rfl,Ok,AQ,_,QP,rE⟩)
          ·rcases LF with ⟨_,_,_,hm,_⟩|⟨b2,o2,c2,us,xD,D3,uE⟩
           ·omega
           have xE:us.length=m*i.size:=by rw[←uE.1,uP,←lI];exact Cw
           have Oz:∀(j:Nat) u,us[j]? = some u→w.cell? ((⟨b2,o2,none⟩:Addr).add j)=some u:=fun j u Lz=>by rw[iZ];exact D3 j u Lz
           have QQ:∀u∈us,u.oneCell'=true:=fun u Lz=>by
            obtain⟨j,hj⟩:=List.mem_iff_getElem?.1 Lz
            have NZ:j<qs.length:=by rw[uE.1];exact(List.getElem?_eq_some_iff.1 hj).1
            obtain⟨q1,q2⟩:=uE.2 j _ u (List.getElem?_eq_getElem NZ) hj
            exact q2.lM q1
           have QS:len*i.size=ps.length:=by rw[uP,←lI];exact g1.symm
           have VH:cap*sz≤arr.size:=by omega
           by_cases s7:len+m≤cap
           ·have LH:len*i.size+us.length≤arr.size:=by
             have h3:(len+m)*sz≤cap*sz:=Nat.mul_le_mul_right _ s7
             rw[Nat.add_mul] at h3
             rw[xE,uP,←lI];omega
            have aq:=vj (P:=P) hu hi o.type b len cap arr hg ⟨b2,o2,none⟩ m c2 us xE Oz QQ s7 LH
            refine Lc _ _ (by rw[Cv,xD];exact aq) ?_
            have LI:(arr.toList.take (len*i.size)++us++arr.toList.drop (len*i.size+us.length)).toArray.size=arr.size:=by
             simp;omega
            have uG:∀j,(arr.toList.take (len*i.size)++us++arr.toList.drop (len*i.size+us.length)).toArray[j]? = if len*i.size≤j∧j<len*i.size+us.length then us[j-len*i.size]? else arr[j]? := by
             intro j
             have:=kQ arr.toList (len*i.size) us (by simp;omega) j
             unfold fk at this
             rw[←List.append_assoc] at this
             simp only[List.getElem?_toArray]
             rw[this]
             simp only[Array.getElem?_toList]
            have FK:∀(j:Nat) p,(ps++qs)[j]? = some p→∃u,(arr.toList.take (len*i.size)++us++arr.toList.drop (len*i.size+us.length)).toArray[j]? = some u∧u.oneCell'=true∧Rd I w p u:=by
             intro j p hp
             rw[uG j]
             rw[List.getElem?_append] at hp
             by_cases hj:j<ps.length
             ·rw[if_pos hj] at hp
              rw[if_neg (by omega)]
              exact AH j p hp
             ·rw[if_neg hj] at hp
              have QT:=(List.getElem?_eq_some_iff.1 hp).1
              have LJ:j-ps.length<us.length:=by rw[←uE.1];exact QT
              rw[if_pos (by omega),QS]
              obtain⟨q1,q2⟩:=uE.2 _ p us[j-ps.length] hp (List.getElem?_eq_getElem LJ)
              exact⟨_,List.getElem?_eq_getElem LJ,q2.lM q1,q2⟩
            have VI:=hr.write (sc' := .pure (ps++qs)) (Nat.lt_of_lt_of_le Oy Γ.small) ov oe hg LI (fun j e' hO=>by
             simp only[SC.sE,List.getElem?_map] at hO
             cases hp:(ps++qs)[j]? with
             |none=>simp[hp] at hO
             |some p =>
              simp[hp] at hO
              subst hO
              exact FK j p hp)
            have HM:dE r (aS.set s.aG r (.pure (ps++qs)))=dE r s.aG:=yH r _ s.aG
            have QU:kill r ⟨s.env,aS.set s.aG r (.pure (ps++qs))⟩=kill r s:=by unfold kill;simp only[HM]
            have LK:=lQ VI (r:=r) (d:=d) (len:=len+m) (sz:=sz) (out:=ps++qs) (v := .slice (some ⟨b,0,none⟩) (len+m) cap) (ob:=some b) uR wq (by rw[HM];exact wu)
             (fun b' fz=>by
              injection fz with fz;subst fz
              rw[HM]
              exact⟨by simpa[World.setRow] using Kp.1,Kp.2,Hm,Tg b oe⟩)
             (s6 (setRow_heap w b arr _ AQ (0,0) hg) (fun j p hp=>by
              obtain⟨u,q1,q2,q3⟩:=FK j p hp
              exact⟨u,q1,q2,q3.mono (fun _ h=>h) (fun b' o' hI=>ig (setRow_other w b b' _ (fun e=>Kp.2 (e ▸ hI))) o')⟩) (by simp))
             (.inr ⟨b,cap,rfl,rfl,s7,AQ,arr.size,by rw[rI w b b _ arr AQ (0,0) hg LI];exact QP,rE⟩)
            rw[QU] at LK
            exact LK
           ·have LL:(arr.toList.take ps.length).length=len*i.size:=by simp;omega
            have holds:∀(j:Nat) v,(arr.toList.take ps.length)[j]? = some v→w.cell? ((⟨b,0,none⟩:Addr).add j)=some v:=by
             intro j v hv
             rw[iZ,Nat.zero_add,cell_of_row w b j arr AQ (0,0) hg]
             rw[List.getElem?_take] at hv
             split at hv
             ·simpa using hv
             ·cases hv
            have aq:=run_append_grow (P:=P) w t1 o.type el i z hu hi hz ⟨b,0,none⟩ len cap (arr.toList.take ps.length) LL holds ⟨b2,o2,none⟩ m c2 us xE Oz (by omega) (by omega) (growslice_fits (by omega) AR)
            refine Lc _ _ (by rw[Cv,xD];exact aq) ?_
            generalize hW:((arr.toList.take ps.length).toArray++us.toArray++Builtin.zeroCells z.cells (grownCap w (len+m) cap el-(len+m)):Array Value)=narr
            have AS:dD Γ s a (w.drew.alloc (.cells narr el)) β I :=
             hr.grow (((Cy.refl _ _).drew).alloc (Nat.le_refl _) _) (fun b h=>h) (fun b h => .inl h)
            have qQ:(w.drew.alloc (.cells narr el)).heap[w.heap.size]? = some (.cells narr el (0,0)):=heap_alloc_new w.drew _
            have CD:=grownCap_ge w (len+m) cap el
            have C6:∀{p:PV} {u:Value},Rd I w p u→Rd I (w.drew.alloc (.cells narr el)) p u:=fun h=>h.mono (fun _ h=>h) (fun b o hI=>ig (Below.heap_alloc w.drew _ b (hr.ib b hI)) o)
            have oE:∀(j:Nat) p,(ps++qs)[j]? = some p→∃u,narr[j]? = some u∧u.oneCell'=true∧Rd I (w.drew.alloc (.cells narr el)) p u:=by
             intro j p hp
             have yI:(arr.toList.take ps.length).length=ps.length:=by simp;omega
             have LM:narr[j]? = if j<ps.length then arr[j]? else if j<ps.length+us.length then us[j-ps.length]? else (Builtin.zeroCells z.cells (grownCap w (len+m) cap el-(len+m)))[j-(ps.length+us.length)]? := by
              rw[←hW,Array.getElem?_append,Array.getElem?_append]
              simp only[Array.size_append,List.size_toArray,yI,List.getElem?_toArray]
              by_cases hj:j<ps.length
              ·rw[if_pos (by omega),if_pos hj,if_pos hj,List.getElem?_take,if_pos hj];simp
              ·by_cases FL:j<ps.length+us.length
               ·rw[if_pos FL,if_neg hj,if_neg hj,if_pos FL]
               ·rw[if_neg FL,if_neg hj,if_neg FL]
             rw[LM]
             rw[List.getElem?_append] at hp
             by_cases hj:j<ps.length
             ·rw[if_pos hj] at hp ⊢
              obtain⟨u,q1,q2,q3⟩:=AH j p hp
              exact⟨u,q1,q2,C6 q3⟩
             ·rw[if_neg hj] at hp ⊢
              have QT:=(List.getElem?_eq_some_iff.1 hp).1
              have LJ:j-ps.length<us.length:=by rw[←uE.1];exact QT
              rw[if_pos (by omega)]
              obtain⟨q1,q2⟩:=uE.2 _ p us[j-ps.length] hp (List.getElem?_eq_getElem LJ)
              exact⟨_,List.getElem?_eq_getElem LJ,q2.lM q1,C6 q2⟩
            refine lQ AS (ob:=some w.heap.size) uR wq wu (fun b' fz => ?_) (s6 qQ oE (by simp)) (.inr ⟨w.heap.size,grownCap w (len+m) cap el,rfl,rfl,CD,el,_,by unfold World.shape?;rw[qQ],?_⟩)
            ·injection fz with fz;subst fz
             exact⟨by simp,fun hI=>Nat.lt_irrefl _ (hr.ib _ hI),(.inl hr.aF.size),fun x hx e=>Nat.lt_irrefl _ (hr.lb x _ (eR.1 hx).1 e)⟩
            ·rw[←hW]
             simp only[Array.size_append,List.size_toArray,LL,xE,size_zeroCells,Hy,uP,lI]
             rw[←Nat.add_mul,←Nat.add_mul]
             have:len+m+(grownCap w (len+m) cap el-(len+m))=grownCap w (len+m) cap el:=by omega
             rw[this];omega
       ·cases aI
      ·cases aI
     ·cases aI
    ·cases aI
  ·cases aI
 ·cases aI
theorem C7{w:World}{I:Nat→Prop}{y:Value}{m sz:Nat}{qs:List PV}(eV:Src w I y m qs)(hl:qs.length=m*sz)(k:Nat)(hk:k≤m) :
  ∃news,bV I w (qs.take (k*sz)) news∧news.length=k*sz∧(∀(P:Program),(Builtin.firstCells sz k y).run P w = .ok news.toArray w)∧∀(P:Program),(Builtin.lenOf y).run P w = .ok m w:=by
 rcases eV with ⟨ao,c,rfl,rfl,rfl⟩|⟨b,o,c,us,rfl,h1,h2⟩
 ·have:k=0:=by omega
  subst this
  refine⟨[],⟨by simp,fun j p u h=>by simp at h⟩,by simp,fun P => ?_,fun P=>rfl⟩
  cases ao with
  |none=>rfl
  |some a=>simp[Builtin.firstCells,loadCells,loadCellsFrom]
 ·have X4:us.length=m*sz:=by rw[←h2.1];exact hl
  have hkm:k*sz≤m*sz:=Nat.mul_le_mul_right _ hk
  refine⟨us.take (k*sz),⟨by simp;omega,fun j p u hp hu => ?_⟩,by simp;omega,fun P => ?_,fun P=>rfl⟩
  ·rw[List.getElem?_take] at hp hu
   split at hp
   ·rename_i hj
    rw[if_pos hj] at hu
    exact h2.2 j p u hp hu
   ·cases hp
  ·have:=run_loadCells_list (P:=P) w ⟨b,o,none⟩ (us.take (k*sz)) (fun j v hv=>by
    rw[List.getElem?_take] at hv
    split at hv
    ·rw[Addr.add_lit];exact h1 j v hv
    ·cases hv)
   rw[List.length_take,Nat.min_eq_left (by omega)] at this
   simpa[Builtin.firstCells] using this
theorem D7{dT sT ty e:TypeId}{i:TypeInfo}(hu:P.underlying dT=some (.slice e))(hi:P.info? e=some i)(g off QV VJ:Nat){cur:Array Value}{AQ:TypeId}(hg:w.heap[g]? = some (.cells cur AQ (0,0))){y:Value}{m k:Nat}{qs:List PV}
  (eV:Src w I y m qs) (hl:qs.length=m*i.size) (hk:min m QV=k) (rE:off+k*i.size≤cur.size) :
  ∃news,bV I w (qs.take (k*i.size)) news∧news.length=k*i.size ∧
   (Builtin.copy_ #[dT,sT] ty #[.slice (some ⟨g,off,none⟩) QV VJ,y]).run P w = .ok (goInt k) (w.setRow g (cur.toList.take off++news++cur.toList.drop (off+news.length)).toArray):=by
 obtain⟨news,h1,h2,h3,h4⟩:=C7 eV hl k (by omega)
 refine⟨news,h1,h2,?_⟩
 have aI:=run_storeCells_at P g off AQ news 0 cur w hg (by simp;omega) (fun v hv=>by
  obtain⟨j,hj⟩:=List.mem_iff_getElem?.1 hv
  have NZ:j<(qs.take (k*i.size)).length:=by rw[h1.1];exact(List.getElem?_eq_some_iff.1 hj).1
  obtain⟨k1,k2⟩:=h1.2 j _ v (List.getElem?_eq_getElem NZ) hj
  exact k2.lM k1)
 simp only[Nat.add_zero] at aI
 have LN:Nat.min m QV=k:=hk
 simp[Builtin.copy_,run_underlying hu,sizeOf,typeInfo,hi,h4 P,LN,h3 P,aI]
def AT(T:kL)(n:Nat)(o:Oper)(h:Hint)(s:St):Option (St×List Prop) :=
 match o.op,h with
 |.call c,.app k out=>match c.callee,c.args.toList,c.argTypes.toList with
  |.builtin .copy,[x,y],[t1,_]=>bif lu n o.dst then
    match T.get t1 with
    |some dt=>match dt.kind with
     |.slice el=>match T.get el,dw s.env x,dw s.env y with
      |some de,some (.row r off len sz),some ey=>match s.aG.get r,FI s.aG r ey with
       |some (.pure ps),some (m,qs,ys)=>bif Nat.beq sz de.size&&Nat.blt r 999999 then
         some (⟨oC s.env o.dst (.pv (.int .i64 (k:Int))),aS.set s.aG r (.pure out)⟩,
          [FJ m sz qs ys,min m len=k,off+k*sz≤ps.length,fk ps off (qs.take (k*sz))=out])
        else none
       |_,_=>none
      |_,_,_=>none
     |_=>none
    |none=>none
   else none
  |_,_,_=>none
 |_,_=>none
theorem AU(hT:nM P T)(hr:Rel Γ s a w)(aI:AT T Γ.n o h s=some (s',ob))(cr:dP ob){K:Act→World→Prop}{Q:Exit→Act→World→Prop}
  (hk:∀a' w',Rel Γ s' a' w'→K a' w'):o.wp P a w K Q:=by
 obtain⟨β,I,hr⟩:=hr
 unfold AT at aI
 split at aI
 ·rename_i c k out uH
  split at aI
  ·rename_i x y t1 t2 sD kg HH
   cases hd:lu Γ.n o.dst with
   |false=>simp[hd] at aI
   |true =>
    simp only[hd,cond_true] at aI
    split at aI
    ·rename_i dt QN
     split at aI
     ·rename_i el Kq
      obtain⟨un,hu,_,hf⟩:=(hT t1 dt QN).under
      rw[Kq] at hf
      have hf:un = .slice el:=hf
      subst hf
      split at aI
      ·rename_i de r off len sz ey oB hx hy
       split at aI
       ·rename_i ps m qs ys ov eV
        cases hb20:(Nat.beq sz de.size&&Nat.blt r 999999) with
        |false=>simp[hb20] at aI
        |true =>
         simp only[hb20,cond_true] at aI
         rw[Bool.and_eq_true] at hb20
         have tU:=hb20.1
         have LC:r<999999:=Nat.le_of_ble_eq_true hb20.2
         have lI:sz=de.size:=Nat.eq_of_beq_eq_true tU
         injection aI with aI;injection aI with h1 h2
         subst h1;subst h2
         obtain⟨g1,cr⟩:=cr.cons
         obtain⟨g2,cr⟩:=cr.cons
         obtain⟨g3,g4⟩:=cr.cons
         have g4:fk ps off (qs.take (k*sz))=out:=g4
         obtain⟨i,hi,UT,_,_⟩:=(hT el de oB).info
         obtain⟨cl,args,LA⟩:=c
         have sD:cl = .builtin .copy:=sD
         subst sD
         have mF:args = #[x,y]:=zK kg
         have wh:LA = #[t1,t2]:=zK HH
         subst mF;subst wh
         have hS:Src w I (a.eval y) m qs∧qs.length=m*sz:=by
          have X8:=hr.Fg y _ hy
          unfold FI at eV
          split at eV
          ·rename_i r2 m2 Lb
           cases oe:Nat.beq r2 r with
           |true=>simp[oe] at eV
           |false =>
            simp only[oe,cond_false] at eV
            split at eV
            ·rename_i Zl Hn
             injection eV with eV;injection eV with e1 e2;injection e2 with e2 e3
             subst e1;subst e2;subst e3
             have g1:Zl.length=m2*sz:=g1
             exact⟨I7 X8 ((hr.aG.1 r2 _ Hn).1) g1,g1⟩
            ·cases eV
          ·rename_i Zm
           injection eV with eV;injection eV with e1 e2;injection e2 with e2 e3
           subst e1;subst e2;subst e3
           have g1:∀row∈Zm,row.length=sz:=g1
           exact⟨AP X8 g1,wk g1⟩
          ·cases eV
         obtain⟨xG,hv⟩:=hr.Fg x _ hx
         have LO:∀v w',(Builtin.copy_ #[t1,t2] o.type #[a.eval x,a.eval y]).run P w = .ok v w'→(execOp a.eval o).run P w = .ok (.value v) w':=by
          intro v w' aq
          simp[execOp,uH,resolve,invoke,builtin,aq]
         rcases hv with ⟨PI,FA,hv⟩|⟨b,cap,hb,hv,hc,Zn,nn,C4,Vx⟩
         ·
          subst FA
          have QW:k=0:=by rw[←g2];exact Nat.min_zero m
          subst QW
          have LG:ps=[]:=by
           rcases(hr.aG.1 r _ ov).1 with ⟨_,h2⟩|⟨b,arr,elq,hb,_⟩
           ·have h2:ps.map EV.pv=[]:=h2
            simpa using h2
           ·rw[PI] at hb;cases hb
          subst LG
          have HN:out=[]:=by rw[←g4];simp[fk]
          subst HN
          obtain⟨news,_,n2,n3,n4⟩:=C7 hS.1 hS.2 0 (Nat.zero_le _)
          have LD:news=[]:=List.eq_nil_of_length_eq_zero (by simpa using n2)
          subst LD
          have aq:(Builtin.copy_ #[t1,t2] o.type #[a.eval x,a.eval y]).run P w = .ok (goInt 0) w:=by
           rw[hv]
           simp[Builtin.copy_,run_underlying hu,sizeOf,typeInfo,hi,UT,←lI,n4 P,n3 P]
          unfold Oper.wp
          rw[LO _ _ aq]
          refine hk _ _ (Rel.Ox (s:=⟨oC s.env o.dst (.pv (.int .i64 (0:Nat))),s.aG⟩) ⟨fun _=>rfl,fun z => ?_⟩ ⟨β,I,hr.put (eT hd) (Rd.int _ _)⟩)
          show(aS.set s.aG r (.pure [])).get z=s.aG.get z
          rw[aS.lP]
          split
          ·rename_i hz;rw[hz.1,ov];rfl
          ·rfl
         ·obtain⟨arr,AQ,hg,PM,oE⟩:=(hr.aG.1 r _ ov).1.block hb
          have PM:ps.length≤arr.size:=by simpa[SC.sE] using PM
          obtain⟨news,n1,n2,n3⟩:=D7 (ty:=o.type) (sT:=t2) (I:=I) hu hi b off len cap hg hS.1 (by rw[UT,←lI];exact hS.2) g2 (by rw[UT,←lI];omega)
          rw[UT,←lI] at n1 n2
          rw[hv] at LO
          unfold Oper.wp
          rw[LO _ _ n3]
          have hlen:(arr.toList.take off++news++arr.toList.drop (off+news.length)).toArray.size=arr.size:=by simp;omega
          have hq:(qs.take (k*sz)).length=k*sz:=n1.1.trans n2
          have kl:=hr.write (sc' := .pure out) LC ov hb hg hlen (fun j e he=>by
           have he:(out.map EV.pv)[j]? = some e:=he
           rw[←g4,List.getElem?_map,kQ _ _ _ (by rw[hq];exact g3),hq] at he
           have uG:(arr.toList.take off++news++arr.toList.drop (off+news.length)).toArray[j]? = if off≤j∧j<off+k*sz then news[j-off]? else arr[j]? := by
            have:=kQ arr.toList off news (by simp;omega) j
            unfold fk at this
            rw[←List.append_assoc] at this
            simp only[List.getElem?_toArray]
            rw[this,n2]
            simp
           rw[uG]
           by_cases hj:off≤j∧j<off+k*sz
           ·rw[if_pos hj] at he ⊢
            cases hp:(qs.take (k*sz))[j-off]? with
            |none=>rw[hp] at he;cases he
            |some p =>
             rw[hp] at he
             injection he with he;subst he
             have NZ:j-off<news.length:=by rw[n2];omega
             obtain⟨k1,k2⟩:=n1.2 (j-off) p _ hp (List.getElem?_eq_getElem NZ)
             exact⟨_,List.getElem?_eq_getElem NZ,k2.lM k1,k2⟩
           ·rw[if_neg hj] at he ⊢
            exact oE j e (by rw[←he];show(ps.map EV.pv)[j]? = _;rw[List.getElem?_map]))
          exact hk _ _ ⟨β,I,kl.put (eT hd) (Rd.int _ _)⟩
       ·cases aI
      ·cases aI
     ·cases aI
    ·cases aI
  ·cases aI
 ·cases aI
theorem QX(hr:dD Γ s a w β I){r m sz:Nat}{ey:EV}{v:Value}{qs:List PV}{ys:Option (List (List PV))}(eV:FI s.aG r ey=some (m,qs,ys))(g2:FJ m sz qs ys)(I6:RE β (bS s.aG) I w ey v):Src w I v m qs∧qs.length=m*sz:=by
 unfold FI at eV
 split at eV
 ·rename_i r2 m2 Lb
  cases hq:Nat.beq r2 r with
  |true=>simp[hq] at eV
  |false =>
   simp only[hq,cond_false] at eV
   split at eV
   ·rename_i VK UU
    injection eV with eV;injection eV with e1 eV;injection eV with e2 e3
    subst e1;subst e2;subst e3
    have Ld:VK.length=m2*sz:=g2
    exact⟨I7 I6 (hr.aG.1 r2 _ UU).1 Ld,Ld⟩
   ·cases eV
 ·rename_i Zo
  injection eV with eV;injection eV with e1 eV;injection eV with e2 e3
  subst e1;subst e2;subst e3
  exact⟨AP I6 g2,wk g2⟩
 ·cases eV
def I8(T:kL)(n:Nat)(o:Oper)(h:Hint)(s:St):Option (St×List Prop):=wv FI T n o h s
theorem CE(hT:nM P T)(hs:∀r,bS Γ.sin r→Γ.n≤r)(hr:Rel Γ s a w)(aI:I8 T Γ.n o h s=some (s',ob))(cr:dP ob){K:Act→World→Prop}{Q:Exit→Act→World→Prop}
  (hk:∀a' w',Rel Γ s' a' w'→K a' w'):o.wp P a w K Q:=s8 (fun hr=>QX hr) hT hs hr aI cr hk
def HO:QM:=fun aG r e =>
 match e with
 |.row r2 off m Lb=>bif Nat.beq r2 r then none else match aG.get r2 with
  |some (.pure qs)=>some (m,(qs.drop off).take (m*Lb),none)
  |_=>none
 |.pv (.list ys)=>some (ys.length,ys.flatten,some ys)
 |_=>none
theorem LP{r off m sz Lb:Nat}{v:Value}{L:Nat→Prop}{qs:List PV}(hv:RE β L I w (.row r off m Lb) v)(hb:RB β L I w r (qs.map EV.pv))(hl:((qs.drop off).take (m*Lb)).length=m*sz):Src w I v m ((qs.drop off).take (m*Lb)):=by
 obtain⟨_,⟨hn,rfl,rfl⟩|⟨b,c,oe,rfl,_⟩⟩:=hv
 ·exact .inl ⟨none,0,rfl,rfl,by simp⟩
 ·obtain⟨arr,el,hg,PM,hc⟩:=hb.block oe
  refine .inr ⟨b,off,c,(arr.toList.drop off).take ((qs.drop off).take (m*Lb)).length,rfl,fun j u hu => ?_,?_,fun j p u hp hu => ?_⟩
  ·rw[List.getElem?_take] at hu
   split at hu
   ·rw[List.getElem?_drop] at hu
    rw[cell_of_row w b (off+j) arr el (0,0) hg];simpa using hu
   ·cases hu
  ·have hq:qs.length≤arr.size:=by simpa using PM
   simp only[List.length_take,List.length_drop,Array.length_toList]
   omega
  ·rw[List.getElem?_take] at hp hu
   split at hu
   ·split at hp
    ·rw[List.getElem?_drop] at hp hu
     obtain⟨u',g1,g2,g3⟩:=hc (off+j) (.pv p) (by rw[List.getElem?_map,hp];rfl)
     have:u'=u:=by simpa[g1] using hu
     subst this
     exact⟨PV.pE g3 g2,g3⟩
    ·cases hp
   ·cases hu
theorem OA(hr:dD Γ s a w β I){r m sz:Nat}{ey:EV}{v:Value}{qs:List PV}{ys:Option (List (List PV))}(eV:HO s.aG r ey=some (m,qs,ys))(g2:FJ m sz qs ys)(I6:RE β (bS s.aG) I w ey v):Src w I v m qs∧qs.length=m*sz:=by
 unfold HO at eV
 split at eV
 ·rename_i r2 off m2 Lb
  cases hq:Nat.beq r2 r with
  |true=>simp[hq] at eV
  |false =>
   simp only[hq,cond_false] at eV
   split at eV
   ·rename_i VK UU
    injection eV with eV;injection eV with e1 eV;injection eV with e2 e3
    subst e1;subst e2;subst e3
    have Ld:((VK.drop off).take (m2*Lb)).length=m2*sz:=g2
    exact⟨LP I6 (hr.aG.1 r2 _ UU).1 Ld,Ld⟩
   ·cases eV
 ·rename_i Zo
  injection eV with eV;injection eV with e1 eV;injection eV with e2 e3
  subst e1;subst e2;subst e3
  exact⟨AP I6 g2,wk g2⟩
 ·cases eV
theorem Rel.cut(hr:Rel Γ s a w){r k:Nat}{ps:List PV}(ov:s.aG.get r=some (.pure ps)):Rel Γ ⟨s.env,aS.set s.aG r (.pure (ps.take k))⟩ a w:=by
 obtain⟨β,I,hr⟩:=hr
 have hL:∀x,bS s.aG x→bS (aS.set s.aG r (.pure (ps.take k))) x:=fun x hx=>gK.2 hx
 refine⟨β,I,fun t e he=>(hr.env t e he).mono (fun _ _=>rfl) hL (fun _ h=>h) (fun _ _ _=>rfl) (fun _ _ _ _=>rfl),⟨fun x sc hx => ?_,fun x y b hx hy=>hr.aG.2 x y b (gK.1 hx) (gK.1 hy)⟩,
  fun x hx=>hr.par x (gK.1 hx),fun x b hx=>hr.new x b (gK.1 hx),hr.ib,hr.ii,hr.aF,hr.size,hr.defers⟩
 have hx:(aS.set s.aG r (.pure (ps.take k))).get x=some sc:=hx
 rw[aS.lP] at hx
 by_cases CB:x=r∧r<999999
 ·obtain⟨rfl,LC⟩:=CB
  rw[if_pos ⟨rfl,LC⟩,ov] at hx
  simp only[Option.map_some,Option.some.injEq] at hx
  subst hx
  obtain⟨k1,k2⟩:=hr.aG.1 x _ ov
  refine⟨?_,k2⟩
  rcases k1 with ⟨c1,c2⟩|⟨b,arr,el,c1,c2,c3⟩
  ·have c2:ps.map EV.pv=[]:=c2
   exact .inl ⟨c1,by show(ps.take k).map EV.pv=[];rw[List.map_take,c2];simp⟩
  ·refine .inr ⟨b,arr,el,c1,c2,fun i e he => ?_⟩
   have he:((ps.take k).map EV.pv)[i]? = some e:=he
   rw[List.map_take] at he
   have ba:=(List.getElem?_eq_some_iff.1 he).1
   rw[List.length_take] at ba
   rw[List.getElem?_take_of_lt (by omega)] at he
   obtain⟨u,d1,d2,d3⟩:=c3 i e he
   exact⟨u,d1,d2,d3.mono (fun _ _=>rfl) hL (fun _ h=>h) (fun _ _ _=>rfl) (fun _ _ _ _=>rfl)⟩
 ·rw[if_neg CB] at hx
  obtain⟨k1,k2⟩:=hr.aG.1 x sc hx
  exact⟨k1.mono rfl (fun _ _=>rfl) (fun _ _=>rfl) hL (fun _ h=>h) (fun _ _ _=>rfl) (fun _ _ _ _=>rfl),k2⟩
end
end Go.Proofs.YtllmkadmohkbfaaGreatDoor.Sym
