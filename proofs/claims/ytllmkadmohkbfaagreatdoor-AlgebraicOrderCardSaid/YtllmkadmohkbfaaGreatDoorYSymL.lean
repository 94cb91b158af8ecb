/- The comparison of algebraic numbers is a total order that agrees with the comparison with fractions. The law AlgebraicOrder returns true for every input, with the tables of numerals of the Go library that the row lists as they are laid. -/
import Derived.Test.YtllmkadmohkbfaaGreatDoorYSymK
namespace Go.Proofs.YtllmkadmohkbfaaGreatDoor.Sym
open Go Go.RowKit
section
variable {P:Program} {T:j0} {Γ:Ctx} {s s':St} {a:Act} {w:World} {β:Nat→Option Nat} {I:Nat→Prop} {o:Oper} {h:Hint} {ob:List Prop}
theorem yR{b sz:Nat} : ∀(ys:List (List PV)) (o:Nat) (f:Nat→Nat→Value),(∀row∈ys,row.length=sz) →
  (∀(i j:Nat) row x,ys[i]? = some row→row[j]? = some x→w.cell? ⟨b,o+(i*sz+j),none⟩=some (f i j)∧x.one=true∧Rd I w x (f i j)) →
  ∃us:List Value,(∀(j:Nat) u,us[j]? = some u→w.cell? ⟨b,o+j,none⟩=some u)∧bQ I w ys.flatten us
 |[],o,f,_,_=>⟨[],fun j u h=>by simp at h,rfl,fun j c u h=>by simp at h⟩
 |row::ys,o,f,hl,h=>by
  have wa:row.length=sz:=hl row (by simp)
  obtain⟨us,h1,h2⟩:=yR ys (o+sz) (fun i j=>f (i+1) j) (fun r hr=>hl r (by simp[hr])) (fun i j r x hi hj=>by
   have:=h (i+1) j r x (by simpa using hi) hj
   rw[show o+sz+(i*sz+j)=o+((i+1)*sz+j) from by rw[Nat.add_mul];omega]
   exact this)
  have s5:∀(j:Nat),((List.range sz).map (f 0)++us)[j]? = if j<sz then some (f 0 j) else us[j-sz]? := by
   intro j
   rw[List.getElem?_append]
   simp only[List.length_map,List.length_range]
   by_cases hj:j<sz
   ·rw[if_pos hj,if_pos hj,List.getElem?_map,List.getElem?_range hj];rfl
   ·rw[if_neg hj,if_neg hj]
  refine⟨(List.range sz).map (f 0)++us,fun j u hu => ?_,by simp[wa];simpa using h2.1,fun j c u hc hu => ?_⟩
  ·rw[s5] at hu
   by_cases hj:j<sz
   ·rw[if_pos hj] at hu
    injection hu with hu;subst hu
    have hx:row[j]? = some row[j]:=List.getElem?_eq_getElem (by omega)
    have:=(h 0 j row _ rfl hx).1
    simpa using this
   ·rw[if_neg hj] at hu
    have:=h1 _ u hu
    rw[show o+sz+(j-sz)=o+j from by omega] at this
    exact this
  ·rw[s5] at hu
   rw[List.flatten_cons,List.getElem?_append] at hc
   by_cases hj:j<sz
   ·rw[if_pos hj] at hu
    rw[if_pos (by omega)] at hc
    injection hu with hu;subst hu
    exact(h 0 j row c rfl hc).2
   ·rw[if_neg hj] at hu
    rw[if_neg (by omega),wa] at hc
    exact h2.2 _ c u hc hu
theorem uK{sz:Nat} : ∀{ys:List (List PV)},(∀row∈ys,row.length=sz)→ys.flatten.length=ys.length*sz
 |[],_=>by simp
 |row::ys,h=>by
  have:=uK (sz:=sz) (ys:=ys) (fun r hr=>h r (by simp[hr]))
  have:=h row (by simp)
  simp only[List.flatten_cons,List.length_append,List.length_cons,Nat.succ_mul]
  omega
def Src(w:World)(I:Nat→Prop)(y:Value)(m:Nat)(qs:List PV):Prop :=
 (∃ao c,y = .slice ao 0 c∧m=0∧qs=[])∨∃b o c us,y = .slice (some ⟨b,o,none⟩) m c∧(∀(j:Nat) u,us[j]? = some u→w.cell? ⟨b,o+j,none⟩=some u)∧bQ I w qs us
theorem yS{ys:List (List PV)}{v:Value}{sz:Nat}(hv:Rd I w (.list ys) v)(hs:∀row∈ys,row.length=sz):Src w I v ys.length ys.flatten:=by
 cases hv with
 |nil ao c=>exact .inl ⟨ao,c,rfl,rfl,rfl⟩
 |list _ b o c s f hc hb Q5 ho hh =>
  have kF:∀row∈ys,row.length=s:=fun row hr=>by
   obtain⟨i,hi⟩:=List.mem_iff_getElem?.1 hr
   exact Q5 i row hi
  obtain⟨us,h1,h2⟩:=yR (w:=w) (I:=I) (b:=b) (sz:=s) ys o f kF (fun i j row x hi hj=>⟨(ho i j row x hi hj).2,(ho i j row x hi hj).1,hh i j row x hi hj⟩)
  exact .inr ⟨b,o,c,us,rfl,h1,h2⟩
theorem G9{r m sz I8:Nat}{v:Value}{L:Nat→Prop}{qs:List PV}(hv:RE β L I w (.row r 0 m I8) v)(hb:RB β L I w r (qs.map EV.pv))(hl:qs.length=m*sz):Src w I v m qs:=by
 obtain⟨_,⟨hn,rfl,rfl⟩|⟨b,c,mS,rfl,_⟩⟩:=hv
 ·exact .inl ⟨none,0,rfl,rfl,List.eq_nil_of_length_eq_zero (by simpa using hl)⟩
 ·obtain⟨arr,el,hg,NS,hc⟩:=hb.block mS
  refine .inr ⟨b,0,c,arr.toList.take qs.length,rfl,fun j u hu => ?_,by simp at NS ⊢;omega,fun j p u hp hu => ?_⟩
  ·rw[List.getElem?_take] at hu
   split at hu
   ·rw[Nat.zero_add,cell_of_row w b j arr el (0,0) hg];simpa using hu
   ·cases hu
  ·rw[List.getElem?_take] at hu
   split at hu
   ·obtain⟨u',g1,g2,g3⟩:=hc j (.pv p) (by rw[List.getElem?_map,hp];rfl)
    have:u'=u:=by simpa[g1] using hu
    subst this
    exact⟨PV.oa g3 g2,g3⟩
   ·cases hu
theorem mE{t e:TypeId}{de:TD}(hu:P.underlying t=some (.slice e))(hd:ph P e de)(ty:TypeId)(ao bo:Option Addr)(len cap c:Nat)(hc:len≤cap) :
  (Builtin.append_ #[t,t] ty #[.slice ao len cap,.slice bo 0 c]).run P w = .ok (.slice ao len cap) w:=by
 cases ao<;>cases bo<;>simp[Builtin.append_,run_underlying hu,hd.run_sizeOf w,Builtin.lenOf,Builtin.firstCells,hc,loadCells,loadCellsFrom,storeCells]
theorem rj{β':Nat→Option Nat}{L':Nat→Prop}{d b:Nat}{ps:List PV}{arr:Array Value}{el:TypeId}(hg:w.heap[b]? = some (.cells arr el (0,0)))
  (hc:∀(j:Nat) p,ps[j]? = some p→∃u,arr[j]? = some u∧u.oneCell'=true∧Rd I w p u) (hb:β' d=some b):RB β' L' I w d (ps.map EV.pv):=by
 refine .inr ⟨b,arr,el,hb,hg,fun j e he => ?_⟩
 rw[List.getElem?_map] at he
 cases hj:ps[j]? with
 |none=>simp[hj] at he
 |some p =>
  simp[hj] at he
  subst he
  exact hc j p hj
theorem tK{r b:Nat}{L:Nat→Prop}{ps:List PV}(h:RB β L I w r (ps.map EV.pv))(hb:β r=some b) :
  ∃arr el,w.heap[b]? = some (.cells arr el (0,0))∧ps.length≤arr.size∧∀(j:Nat) p,ps[j]? = some p→∃u,arr[j]? = some u∧u.oneCell'=true∧Rd I w p u:=by
 obtain⟨arr,el,h1,h2,h3⟩:=h.block hb
 refine⟨arr,el,h1,by simpa using h2,fun j p hp=>h3 j (.pv p) (by rw[List.getElem?_map,hp];rfl)⟩
theorem uL(r:Nat)(hr:r<999999)(sc:SC):∀(s:aS),di r (aS.FY s r sc)=di r s
 |[]=>rfl
 |(r',c)::s=>by
  have dG:Nat.blt r 999999=true:=Nat.ble_eq_true_of_le hr
  simp only[aS.FY]
  cases hb:Nat.beq r' r with
  |true=>simp[di,hb,dG]
  |false=>simp[di,hb,uL r hr sc s]
theorem xd(r:Nat)(sc:SC)(s:aS):di r (aS.set s r sc)=di r s:=by
 unfold aS.set
 by_cases hr:r<999999
 ·rw[show Nat.blt r 999999=true from Nat.ble_eq_true_of_le hr]
  exact uL r hr sc s
 ·rw[show Nat.blt r 999999=false from Bool.eq_false_iff.2 (fun h=>hr (Nat.le_of_ble_eq_true h))]
  rfl
theorem kN(hr:dh Γ s a w β I){r d len sz:Nat}{out:List PV}{v:Value}(ti:d<Γ.n)(uM:¬bM Γ.sin d)(uN:¬bM (di r s.aG) d){ob:Option Nat}
  (hb:∀b,ob=some b→b<w.heap.size∧¬I b∧Γ.Nw b∧∀x,bM (di r s.aG) x→β x≠some b)
  (G7:RB (fun x=>if x=d then ob else β x) (fun x=>bM (di r s.aG) x∨x=d) I w d (out.map EV.pv))
  (hv:(ob=none∧len=0∧v = .slice none 0 0)∨∃b c,ob=some b∧v = .slice (some ⟨b,0,none⟩) len c∧len≤c∧∃el n,w.shape? b=some (el,n)∧0+c*sz≤n) :
  Rel Γ ⟨nm (kill r s).env (some d) (.row d 0 len sz),(d,.pure out)::(kill r s).aG⟩ (a.put (some d) v) w:=by
 have h1:=hr.kill r
 have q7:d<999999:=Nat.lt_of_lt_of_le ti Γ.small
 have h2:=h1.site (d:=d) (sc := .pure out) q7 uN uM (β':=fun x=>if x=d then ob else β x) (fun x hx=>if_neg hx) (fun b eN=>hb b (by simpa using eN)) G7
 refine⟨_,_,h2.put (dst:=some d) (fun d' NR=>by injection NR with NR;rw[←NR];exact ti) ⟨(dB q7).2 (.inl rfl),?_⟩⟩
 simpa using hv
theorem tL{t e yT:TypeId}{i:TypeInfo}(ht:P.underlying t=some (.slice e))(hi:P.info? e=some i)(ty:TypeId)
  (g kG s7:Nat) (cur:Array Value) (hg:w.heap[g]? = some (.cells cur yT (0,0)))
  (ad:Addr) (m c:Nat) (news:List Value) (hl:news.length=m*i.size) (JD:∀j u,news[j]? = some u→w.cell? (ad.add j)=some u) (h1:∀u∈news,u.oneCell'=true)
  (rk:kG+m≤s7) (oX:kG*i.size+news.length≤cur.size) :
  (Builtin.append_ #[t,t] ty #[.slice (some ⟨g,0,none⟩) kG s7,.slice (some ad) m c]).run P w =
   .ok (.slice (some ⟨g,0,none⟩) (kG+m) s7) (w.setRow g (cur.toList.take (kG*i.size)++news++cur.toList.drop (kG*i.size+news.length)).toArray):=by
 have hf:=run_firstCells_some (P:=P) w i.size m ad m c news hl JD
 have aI:=run_storeCells_at P g (kG*i.size) yT news 0 cur w hg (by simpa using oX) h1
 simp only[Nat.add_zero] at aI
 simp[Builtin.append_,run_underlying ht,sizeOf,typeInfo,hi,Builtin.lenOf,rk,hf,Addr.add_lit,aI]
def D9(aG:aS)(r:Nat)(e:EV):Option (Nat×List PV×Option (List (List PV))) :=
 match e with
 |.row r2 0 m _=>bif Nat.beq r2 r then none else match aG.get r2 with
  |some (.pure qs)=>some (m,qs,none)
  |_=>none
 |.pv (.list ys)=>some (ys.length,ys.flatten,some ys)
 |_=>none
def Ea(m sz:Nat)(qs:List PV):Option (List (List PV))→Prop
 |none=>qs.length=m*sz
 |some ys=>∀row∈ys,row.length=sz
abbrev OL:=aS→Nat→EV→Option (Nat×List PV×Option (List (List PV)))
def uO(src:OL)(T:j0)(n:Nat)(o:Oper)(h:Hint)(s:St):Option (St×List Prop) :=
 match o.op,o.dst,h with
 |.call c,some d,.app s8 out=>match c.callee,c.args.toList,c.argTypes.toList with
  |.builtin .append,[x,y],[t1,t2]=>bif Nat.beq t1 t2&&Nat.blt d n then
    match T.get t1 with
    |some dt=>match dt.kind with
     |.slice el=>match T.get el,cZ s.env x,cZ s.env y with
      |some de,some (.row r 0 len sz),some ey=>match s.aG.get r,src s.aG r ey,(kill r s).aG.get d with
       |some (.pure ps),some (m,qs,ys),none=>bif Nat.beq sz de.size&&Nat.ble 1 sz&&Nat.blt r n then
         some (⟨nm (kill r s).env (some d) (.row d 0 s8 sz),(d,.pure out)::(kill r s).aG⟩,
          [ps.length=len*sz,Ea m sz qs ys,len+m=s8,ps++qs=out,s8*de.bytes≤140737488355328,s8<9223372036854775808])
        else none
       |_,_,_=>none
      |_,_,_=>none
     |_=>none
    |none=>none
   else none
  |_,_,_=>none
 |_,_,_=>none
theorem rl{src:OL}(HS:∀{β:Nat→Option Nat} {I:Nat→Prop},dh Γ s a w β I→∀{r m sz:Nat} {ey:EV} {v:Value} {qs:List PV} {ys:Option (List (List PV))},src s.aG r ey=some (m,qs,ys)→Ea m sz qs ys→RE β (bM s.aG) I w ey v→Src w I v m qs∧qs.length=m*sz)(hT:mC P T)(hs:∀r,bM Γ.sin r→Γ.n≤r)(hr:Rel Γ s a w)(aI:uO src T Γ.n o h s=some (s',ob))(cb:dA ob){K:Act→World→Prop}{Q:Exit→Act→World→Prop}
  (hk:∀a' w',Rel Γ s' a' w'→K a' w'):o.wp P a w K Q:=by
 obtain⟨β,I,hr⟩:=hr
 unfold uO at aI
 split at aI
 ·rename_i c d s8 out s6 D8
  split at aI
  ·rename_i x y t1 t2 qQ jz FU
   cases pj:(Nat.beq t1 t2&&Nat.blt d Γ.n) with
   |false=>simp[pj] at aI
   |true =>
    simp only[pj,cond_true] at aI
    simp only[Bool.and_eq_true] at pj
    have mF:t1=t2:=Nat.eq_of_beq_eq_true pj.1
    have ti:d<Γ.n:=Nat.le_of_ble_eq_true pj.2
    subst mF
    split at aI
    ·rename_i dt Q7
     split at aI
     ·rename_i el It
      obtain⟨un,hu,_,hf⟩:=(hT t1 dt Q7).under
      rw[It] at hf
      have hf:un = .slice el:=hf
      subst hf
      split at aI
      ·rename_i de r len sz ey nk hx hy
       split at aI
       ·rename_i ps m qs ys na ek th
        cases sk:(Nat.beq sz de.size&&Nat.ble 1 sz&&Nat.blt r Γ.n) with
        |false=>simp[sk] at aI
        |true =>
         simp only[sk,cond_true] at aI
         simp only[Bool.and_eq_true] at sk
         have kF:sz=de.size:=Nat.eq_of_beq_eq_true sk.1.1
         have Q8:1≤sz:=Nat.le_of_ble_eq_true sk.1.2
         have My:r<Γ.n:=Nat.le_of_ble_eq_true sk.2
         injection aI with aI;injection aI with h1 h2
         subst h1;subst h2
         obtain⟨g1,cb⟩:=cb.cons
         obtain⟨g2,cb⟩:=cb.cons
         obtain⟨g3,cb⟩:=cb.cons
         obtain⟨g4,cb⟩:=cb.cons
         obtain⟨g5,g6⟩:=cb.cons
         have g6:s8<9223372036854775808:=g6
         subst g3;subst g4
         obtain⟨i,hi,tg,Mr,z,hz,_,FK,_⟩:=(hT el de nk).info
         have hex:=hr.DN x _ hx
         have G8:=hr.DN y _ hy
         obtain⟨vY,wa⟩:=hex
         have G7:=(hr.aG.1 r _ na).1
         have OM:¬bM Γ.sin r:=fun h=>by have:=hs r h;omega
         have uM:¬bM Γ.sin d:=fun h=>absurd (hs d h) (Nat.not_le_of_lt ti)
         have uN:¬bM (kill r s).aG d:=by unfold bM;rw[th];simp
         have Q9:Src w I (a.eval y) m qs∧qs.length=m*sz:=HS hr ek g2 G8
         obtain⟨JE,A4⟩:=Q9
         have I9:∀v' w',(Builtin.append_ #[t1,t1] o.type #[a.eval x,a.eval y]).run P w = .ok v' w'→Rel Γ ⟨nm (kill r s).env (some d) (.row d 0 (len+m) sz),(d,.pure (ps++qs))::(kill r s).aG⟩ (a.put (some d) v') w'→o.wp P a w K Q:=by
          intro v' w' aq jD
          have lN:=xV jz
          have uH:=xV FU
          obtain⟨cl,args,JA⟩:=c
          simp only at qQ lN uH
          subst qQ;subst lN;subst uH
          unfold Oper.wp execOp
          simp only[s6,resolve,invoke,builtin,Sem.run_bind,Sem.run_pure,Result.andThen_ok,List.map_toArray,List.map_cons,List.map_nil,aq]
          show K (a.put o.dst v') w'
          rw[D8]
          exact hk _ _ jD
         have yU:(len+m)*i.bytes≤140737488355328:=by rw[Mr];exact g5
         have Iu:len+m≤maxLen:=by unfold maxLen;omega
         have Ra:∀b,β r=some b→∀x,bM (di r s.aG) x→β x≠some b:=fun b hb x hx e =>
          (ei.1 hx).2 (hr.aG.2 x r b (ei.1 hx).1 vY e hb)
         rcases wa with ⟨NO,D1,AU⟩|⟨b,cap,mS,AU,Mo,W9,nx,Bw,oX⟩
         ·
          subst D1
          have JF:ps=[]:=List.eq_nil_of_length_eq_zero (by simpa using g1)
          subst JF
          rcases JE with ⟨ao,c2,vT,rfl,rfl⟩|⟨b2,o2,c2,us,vT,Cv,sZ⟩
          ·refine I9 _ _ (by rw[AU,vT];exact mE hu (hT el de nk) _ none ao 0 0 c2 (Nat.le_refl _)) ?_
           exact kN hr (ob:=none) ti uM uN (fun b hb=>by cases hb) (.inl ⟨by simp,rfl⟩) (.inl ⟨rfl,rfl,rfl⟩)
          ·have vV:us.length=m*i.size:=by rw[←sZ.1,tg,←kF];exact A4
           have Mz:∀(j:Nat) u,us[j]? = some u→w.cell? ((⟨b2,o2,none⟩:Addr).add j)=some u:=fun j u Jz=>by rw[ia];exact Cv j u Jz
           rcases Nat.eq_zero_or_pos m with Fv|Fv
           ·subst Fv
            have mG:qs=[]:=List.eq_nil_of_length_eq_zero (by simpa using A4)
            subst mG
            refine I9 _ _ (by rw[AU,vT];exact mE hu (hT el de nk) _ none _ 0 0 c2 (Nat.le_refl _)) ?_
            exact kN hr (ob:=none) ti uM uN (fun b hb=>by cases hb) (.inl ⟨by simp,rfl⟩) (.inl ⟨rfl,rfl,rfl⟩)
           ·have aq:=run_append_nil (P:=P) w t1 o.type el i z hu hi hz ⟨b2,o2,none⟩ m c2 us vV Mz Fv (by omega) (by simp only[Nat.zero_add] at yU;omega)
            refine I9 _ _ (by rw[AU,vT];exact aq) ?_
            have yV:dh Γ s a (w.drew.alloc (.cells (us.toArray++Builtin.zeroCells z.cells (grownCap w m 0 el-m)) el)) β I :=
             hr.grow (((AY.refl _ _).drew).alloc (Nat.le_refl _) _) (fun b h=>h) (fun b h => .inl h)
            have pn:(w.drew.alloc (.cells (us.toArray++Builtin.zeroCells z.cells (grownCap w m 0 el-m)) el)).heap[w.heap.size]? = some (.cells (us.toArray++Builtin.zeroCells z.cells (grownCap w m 0 el-m)) el (0,0)):=heap_alloc_new w.drew _
            have A5:=grownCap_ge w m 0 el
            have nq:∀(j:Nat) p,(([]:List PV)++qs)[j]? = some p→∃u,(us.toArray++Builtin.zeroCells z.cells (grownCap w m 0 el-m))[j]? = some u∧u.oneCell'=true∧Rd I (w.drew.alloc (.cells (us.toArray++Builtin.zeroCells z.cells (grownCap w m 0 el-m)) el)) p u:=by
             intro j p hp
             simp only[List.nil_append] at hp
             have hj:j<us.length:=by rw[←sZ.1];exact(List.getElem?_eq_some_iff.1 hp).1
             obtain⟨q1,q2⟩:=sZ.2 j p us[j] hp (List.getElem?_eq_getElem hj)
             refine⟨us[j],by rw[Array.getElem?_append_left (by simpa using hj)];simp[hj],q2.kJ q1,q2.mono (fun _ h=>h) (fun b o hI=>gy (Below.heap_alloc w.drew _ b (hr.ib b hI)) o)⟩
            refine kN yV (ob:=some w.heap.size) ti uM uN (fun b hb => ?_) (rj pn nq (by simp)) (.inr ⟨w.heap.size,grownCap w m 0 el,rfl,by simp,by simpa using A5,el,_,by unfold World.shape?;rw[pn],?_⟩)
            ·injection hb with hb;subst hb
             exact⟨by simp,fun hI=>Nat.lt_irrefl _ (hr.ib _ hI),(.inl hr.aH.size),fun x hx e=>Nat.lt_irrefl _ (hr.lb x _ (ei.1 hx).1 e)⟩
            ·simp only[Array.size_append,List.size_toArray,vV,size_zeroCells,FK,tg,kF]
             rw[←Nat.add_mul]
             have:m+(grownCap w m 0 el-m)=grownCap w m 0 el:=by omega
             rw[this];omega
         ·
          have Fw:Γ.Nw b:=hr.new r b vY (.inl OM) mS
          have Is:=((hr.aG.1 r _ na).2 b mS)
          obtain⟨arr,yT,hg,GY,yK⟩:=tK G7 mS
          have ON:w.shape? b=some (yT,arr.size):=by unfold World.shape?;rw[hg]
          have Cx:nx=arr.size:=by
           rw[ON] at Bw;injection Bw with Bw;injection Bw with h1 h2;exact h2.symm
          subst Cx
          rcases Nat.eq_zero_or_pos m with Fv|Fv
          ·have vT:∃bo c2,a.eval y = .slice bo 0 c2:=by
            rcases JE with ⟨ao,c2,vT,_⟩|⟨b2,o2,c2,us,vT,_⟩
            ·exact⟨_,_,vT⟩
            ·exact⟨_,_,by rw[vT,Fv]⟩
           obtain⟨bo,c2,vT⟩:=vT
           subst Fv
           have mG:qs=[]:=List.eq_nil_of_length_eq_zero (by simpa using A4)
           subst mG
           refine I9 _ _ (by rw[AU,vT];exact mE hu (hT el de nk) _ _ _ len cap c2 Mo) ?_
           exact kN hr (ob:=some b) ti uM uN (fun b' eN=>by injection eN with eN;subst eN;exact⟨Is.1,Is.2,Fw,Ra b mS⟩)
            (rj hg (fun j p hp=>yK j p (by simpa using hp)) (by simp)) (.inr ⟨b,cap,rfl,rfl,Mo,yT,_,ON,oX⟩)
          ·rcases JE with ⟨_,_,_,hm,_⟩|⟨b2,o2,c2,us,vT,Cv,sZ⟩
           ·omega
           have vV:us.length=m*i.size:=by rw[←sZ.1,tg,←kF];exact A4
           have Mz:∀(j:Nat) u,us[j]? = some u→w.cell? ((⟨b2,o2,none⟩:Addr).add j)=some u:=fun j u Jz=>by rw[ia];exact Cv j u Jz
           have OO:∀u∈us,u.oneCell'=true:=fun u Jz=>by
            obtain⟨j,hj⟩:=List.mem_iff_getElem?.1 Jz
            have L0:j<qs.length:=by rw[sZ.1];exact(List.getElem?_eq_some_iff.1 hj).1
            obtain⟨q1,q2⟩:=sZ.2 j _ u (List.getElem?_eq_getElem L0) hj
            exact q2.kJ q1
           have OP:len*i.size=ps.length:=by rw[tg,←kF];exact g1.symm
           have Tw:cap*sz≤arr.size:=by omega
           by_cases rk:len+m≤cap
           ·have JG:len*i.size+us.length≤arr.size:=by
             have h3:(len+m)*sz≤cap*sz:=Nat.mul_le_mul_right _ rk
             rw[Nat.add_mul] at h3
             rw[vV,tg,←kF];omega
            have aq:=tL (P:=P) hu hi o.type b len cap arr hg ⟨b2,o2,none⟩ m c2 us vV Mz OO rk JG
            refine I9 _ _ (by rw[AU,vT];exact aq) ?_
            have JH:(arr.toList.take (len*i.size)++us++arr.toList.drop (len*i.size+us.length)).toArray.size=arr.size:=by
             simp;omega
            have s5:∀j,(arr.toList.take (len*i.size)++us++arr.toList.drop (len*i.size+us.length)).toArray[j]? = if len*i.size≤j∧j<len*i.size+us.length then us[j-len*i.size]? else arr[j]? := by
             intro j
             have:=kd arr.toList (len*i.size) us (by simp;omega) j
             unfold ee at this
             rw[←List.append_assoc] at this
             simp only[List.getElem?_toArray]
             rw[this]
             simp only[Array.getElem?_toList]
            have Eb:∀(j:Nat) p,(ps++qs)[j]? = some p→∃u,(arr.toList.take (len*i.size)++us++arr.toList.drop (len*i.size+us.length)).toArray[j]? = some u∧u.oneCell'=true∧Rd I w p u:=by
             intro j p hp
             rw[s5 j]
             rw[List.getElem?_append] at hp
             by_cases hj:j<ps.length
             ·rw[if_pos hj] at hp
              rw[if_neg (by omega)]
              exact yK j p hp
             ·rw[if_neg hj] at hp
              have OQ:=(List.getElem?_eq_some_iff.1 hp).1
              have JI:j-ps.length<us.length:=by rw[←sZ.1];exact OQ
              rw[if_pos (by omega),OP]
              obtain⟨q1,q2⟩:=sZ.2 _ p us[j-ps.length] hp (List.getElem?_eq_getElem JI)
              exact⟨_,List.getElem?_eq_getElem JI,q2.kJ q1,q2⟩
            have Tx:=hr.write (sc' := .pure (ps++qs)) (Nat.lt_of_lt_of_le My Γ.small) na mS hg JH (fun j e' gn=>by
             simp only[SC.qR,List.getElem?_map] at gn
             cases hp:(ps++qs)[j]? with
             |none=>simp[hp] at gn
             |some p =>
              simp[hp] at gn
              subst gn
              exact Eb j p hp)
            have FZ:di r (aS.set s.aG r (.pure (ps++qs)))=di r s.aG:=xd r _ s.aG
            have OR:kill r ⟨s.env,aS.set s.aG r (.pure (ps++qs))⟩=kill r s:=by unfold kill;simp only[FZ]
            have JJ:=kN Tx (r:=r) (d:=d) (len:=len+m) (sz:=sz) (out:=ps++qs) (v := .slice (some ⟨b,0,none⟩) (len+m) cap) (ob:=some b) ti uM (by rw[FZ];exact uN)
             (fun b' eN=>by
              injection eN with eN;subst eN
              rw[FZ]
              exact⟨by simpa[World.setRow] using Is.1,Is.2,Fw,Ra b mS⟩)
             (rj (setRow_heap w b arr _ yT (0,0) hg) (fun j p hp=>by
              obtain⟨u,q1,q2,q3⟩:=Eb j p hp
              exact⟨u,q1,q2,q3.mono (fun _ h=>h) (fun b' o' hI=>gy (setRow_other w b b' _ (fun e=>Is.2 (e ▸ hI))) o')⟩) (by simp))
             (.inr ⟨b,cap,rfl,rfl,rk,yT,arr.size,by rw[qb w b b _ arr yT (0,0) hg JH];exact ON,oX⟩)
            rw[OR] at JJ
            exact JJ
           ·have JK:(arr.toList.take ps.length).length=len*i.size:=by simp;omega
            have holds:∀(j:Nat) v,(arr.toList.take ps.length)[j]? = some v→w.cell? ((⟨b,0,none⟩:Addr).add j)=some v:=by
             intro j v hv
             rw[ia,Nat.zero_add,cell_of_row w b j arr yT (0,0) hg]
             rw[List.getElem?_take] at hv
             split at hv
             ·simpa using hv
             ·cases hv
            have aq:=run_append_grow (P:=P) w t1 o.type el i z hu hi hz ⟨b,0,none⟩ len cap (arr.toList.take ps.length) JK holds ⟨b2,o2,none⟩ m c2 us vV Mz (by omega) (by omega) (growslice_fits (by omega) yU)
            refine I9 _ _ (by rw[AU,vT];exact aq) ?_
            generalize hW:((arr.toList.take ps.length).toArray++us.toArray++Builtin.zeroCells z.cells (grownCap w (len+m) cap el-(len+m)):Array Value)=narr
            have yV:dh Γ s a (w.drew.alloc (.cells narr el)) β I :=
             hr.grow (((AY.refl _ _).drew).alloc (Nat.le_refl _) _) (fun b h=>h) (fun b h => .inl h)
            have pn:(w.drew.alloc (.cells narr el)).heap[w.heap.size]? = some (.cells narr el (0,0)):=heap_alloc_new w.drew _
            have A5:=grownCap_ge w (len+m) cap el
            have By:∀{p:PV} {u:Value},Rd I w p u→Rd I (w.drew.alloc (.cells narr el)) p u:=fun h=>h.mono (fun _ h=>h) (fun b o hI=>gy (Below.heap_alloc w.drew _ b (hr.ib b hI)) o)
            have nq:∀(j:Nat) p,(ps++qs)[j]? = some p→∃u,narr[j]? = some u∧u.oneCell'=true∧Rd I (w.drew.alloc (.cells narr el)) p u:=by
             intro j p hp
             have xe:(arr.toList.take ps.length).length=ps.length:=by simp;omega
             have JL:narr[j]? = if j<ps.length then arr[j]? else if j<ps.length+us.length then us[j-ps.length]? else (Builtin.zeroCells z.cells (grownCap w (len+m) cap el-(len+m)))[j-(ps.length+us.length)]? := by
              rw[←hW,Array.getElem?_append,Array.getElem?_append]
              simp only[Array.size_append,List.size_toArray,xe,List.getElem?_toArray]
              by_cases hj:j<ps.length
              ·rw[if_pos (by omega),if_pos hj,if_pos hj,List.getElem?_take,if_pos hj];simp
              ·by_cases Ec:j<ps.length+us.length
               ·rw[if_pos Ec,if_neg hj,if_neg hj,if_pos Ec]
               ·rw[if_neg Ec,if_neg hj,if_neg Ec]
             rw[JL]
             rw[List.getElem?_append] at hp
             by_cases hj:j<ps.length
             ·rw[if_pos hj] at hp ⊢
              obtain⟨u,q1,q2,q3⟩:=yK j p hp
              exact⟨u,q1,q2,By q3⟩
             ·rw[if_neg hj] at hp ⊢
              have OQ:=(List.getElem?_eq_some_iff.1 hp).1
              have JI:j-ps.length<us.length:=by rw[←sZ.1];exact OQ
              rw[if_pos (by omega)]
              obtain⟨q1,q2⟩:=sZ.2 _ p us[j-ps.length] hp (List.getElem?_eq_getElem JI)
              exact⟨_,List.getElem?_eq_getElem JI,q2.kJ q1,By q2⟩
            refine kN yV (ob:=some w.heap.size) ti uM uN (fun b' eN => ?_) (rj pn nq (by simp)) (.inr ⟨w.heap.size,grownCap w (len+m) cap el,rfl,rfl,A5,el,_,by unfold World.shape?;rw[pn],?_⟩)
            ·injection eN with eN;subst eN
             exact⟨by simp,fun hI=>Nat.lt_irrefl _ (hr.ib _ hI),(.inl hr.aH.size),fun x hx e=>Nat.lt_irrefl _ (hr.lb x _ (ei.1 hx).1 e)⟩
            ·rw[←hW]
             simp only[Array.size_append,List.size_toArray,JK,vV,size_zeroCells,FK,tg,kF]
             rw[←Nat.add_mul,←Nat.add_mul]
             have:len+m+(grownCap w (len+m) cap el-(len+m))=grownCap w (len+m) cap el:=by omega
             rw[this];omega
       ·cases aI
      ·cases aI
     ·cases aI
    ·cases aI
  ·cases aI
 ·cases aI
theorem Bz{w:World}{I:Nat→Prop}{y:Value}{m sz:Nat}{qs:List PV}(ek:Src w I y m qs)(hl:qs.length=m*sz)(k:Nat)(hk:k≤m) :
  ∃news,bQ I w (qs.take (k*sz)) news∧news.length=k*sz∧(∀(P:Program),(Builtin.firstCells sz k y).run P w = .ok news.toArray w)∧∀(P:Program),(Builtin.lenOf y).run P w = .ok m w:=by
 rcases ek with ⟨ao,c,rfl,rfl,rfl⟩|⟨b,o,c,us,rfl,h1,h2⟩
 ·have:k=0:=by omega
  subst this
  refine⟨[],⟨by simp,fun j p u h=>by simp at h⟩,by simp,fun P => ?_,fun P=>rfl⟩
  cases ao with
  |none=>rfl
  |some a=>simp[Builtin.firstCells,loadCells,loadCellsFrom]
 ·have VR:us.length=m*sz:=by rw[←h2.1];exact hl
  have YJ:k*sz≤m*sz:=Nat.mul_le_mul_right _ hk
  refine⟨us.take (k*sz),⟨by simp;omega,fun j p u hp hu => ?_⟩,by simp;omega,fun P => ?_,fun P=>rfl⟩
  ·rw[List.getElem?_take] at hp hu
   split at hp
   ·rename_i hj
    rw[if_pos hj] at hu
    exact h2.2 j p u hp hu
   ·cases hp
  ·have:=run_loadCells_list (P:=P) w ⟨b,o,none⟩ (us.take (k*sz)) (fun j v hv=>by
    rw[List.getElem?_take] at hv
    split at hv
    ·rw[Addr.add_lit];exact h1 j v hv
    ·cases hv)
   rw[List.length_take,Nat.min_eq_left (by omega)] at this
   simpa[Builtin.firstCells] using this
theorem CA{dT sT ty e:TypeId}{i:TypeInfo}(hu:P.underlying dT=some (.slice e))(hi:P.info? e=some i)(g off OS Ty:Nat){cur:Array Value}{yT:TypeId}(hg:w.heap[g]? = some (.cells cur yT (0,0))){y:Value}{m k:Nat}{qs:List PV}
  (ek:Src w I y m qs) (hl:qs.length=m*i.size) (hk:min m OS=k) (oX:off+k*i.size≤cur.size) :
  ∃news,bQ I w (qs.take (k*i.size)) news∧news.length=k*i.size ∧
   (Builtin.copy_ #[dT,sT] ty #[.slice (some ⟨g,off,none⟩) OS Ty,y]).run P w = .ok (goInt k) (w.setRow g (cur.toList.take off++news++cur.toList.drop (off+news.length)).toArray):=by
 obtain⟨news,h1,h2,h3,h4⟩:=Bz ek hl k (by omega)
 refine⟨news,h1,h2,?_⟩
 have aI:=run_storeCells_at P g off yT news 0 cur w hg (by simp;omega) (fun v hv=>by
  obtain⟨j,hj⟩:=List.mem_iff_getElem?.1 hv
  have L0:j<(qs.take (k*i.size)).length:=by rw[h1.1];exact(List.getElem?_eq_some_iff.1 hj).1
  obtain⟨k1,k2⟩:=h1.2 j _ v (List.getElem?_eq_getElem L0) hj
  exact k2.kJ k1)
 simp only[Nat.add_zero] at aI
 have JM:Nat.min m OS=k:=hk
 simp[Builtin.copy_,run_underlying hu,sizeOf,typeInfo,hi,h4 P,JM,h3 P,aI]
def yW(T:j0)(n:Nat)(o:Oper)(h:Hint)(s:St):Option (St×List Prop) :=
 match o.op,h with
 |.call c,.app k out=>match c.callee,c.args.toList,c.argTypes.toList with
  |.builtin .copy,[x,y],[t1,_]=>bif ky n o.dst then
    match T.get t1 with
    |some dt=>match dt.kind with
     |.slice el=>match T.get el,cZ s.env x,cZ s.env y with
      |some de,some (.row r off len sz),some ey=>match s.aG.get r,D9 s.aG r ey with
       |some (.pure ps),some (m,qs,ys)=>bif Nat.beq sz de.size&&Nat.blt r 999999 then
         some (⟨nm s.env o.dst (.pv (.int .i64 (k:Int))),aS.set s.aG r (.pure out)⟩,
          [Ea m sz qs ys,min m len=k,off+k*sz≤ps.length,ee ps off (qs.take (k*sz))=out])
        else none
       |_,_=>none
      |_,_,_=>none
     |_=>none
    |none=>none
   else none
  |_,_,_=>none
 |_,_=>none
theorem yX(hT:mC P T)(hr:Rel Γ s a w)(aI:yW T Γ.n o h s=some (s',ob))(cb:dA ob){K:Act→World→Prop}{Q:Exit→Act→World→Prop}
  (hk:∀a' w',Rel Γ s' a' w'→K a' w'):o.wp P a w K Q:=by
 obtain⟨β,I,hr⟩:=hr
 unfold yW at aI
 split at aI
 ·rename_i c k out s6
  split at aI
  ·rename_i x y t1 t2 qQ jz FU
   cases hd:ky Γ.n o.dst with
   |false=>simp[hd] at aI
   |true =>
    simp only[hd,cond_true] at aI
    split at aI
    ·rename_i dt Q7
     split at aI
     ·rename_i el It
      obtain⟨un,hu,_,hf⟩:=(hT t1 dt Q7).under
      rw[It] at hf
      have hf:un = .slice el:=hf
      subst hf
      split at aI
      ·rename_i de r off len sz ey nk hx hy
       split at aI
       ·rename_i ps m qs ys na ek
        cases hb20:(Nat.beq sz de.size&&Nat.blt r 999999) with
        |false=>simp[hb20] at aI
        |true =>
         simp only[hb20,cond_true] at aI
         rw[Bool.and_eq_true] at hb20
         have sk:=hb20.1
         have JC:r<999999:=Nat.le_of_ble_eq_true hb20.2
         have kF:sz=de.size:=Nat.eq_of_beq_eq_true sk
         injection aI with aI;injection aI with h1 h2
         subst h1;subst h2
         obtain⟨g1,cb⟩:=cb.cons
         obtain⟨g2,cb⟩:=cb.cons
         obtain⟨g3,g4⟩:=cb.cons
         have g4:ee ps off (qs.take (k*sz))=out:=g4
         obtain⟨i,hi,SN,_,_⟩:=(hT el de nk).info
         obtain⟨cl,args,JA⟩:=c
         have qQ:cl = .builtin .copy:=qQ
         subst qQ
         have lN:args = #[x,y]:=xV jz
         have uH:JA = #[t1,t2]:=xV FU
         subst lN;subst uH
         have hS:Src w I (a.eval y) m qs∧qs.length=m*sz:=by
          have VV:=hr.DN y _ hy
          unfold D9 at ek
          split at ek
          ·rename_i r2 m2 I8
           cases mS:Nat.beq r2 r with
           |true=>simp[mS] at ek
           |false =>
            simp only[mS,cond_false] at ek
            split at ek
            ·rename_i Xa Fx
             injection ek with ek;injection ek with e1 e2;injection e2 with e2 e3
             subst e1;subst e2;subst e3
             have g1:Xa.length=m2*sz:=g1
             exact⟨G9 VV ((hr.aG.1 r2 _ Fx).1) g1,g1⟩
            ·cases ek
          ·rename_i Xb
           injection ek with ek;injection ek with e1 e2;injection e2 with e2 e3
           subst e1;subst e2;subst e3
           have g1:∀row∈Xb,row.length=sz:=g1
           exact⟨yS VV g1,uK g1⟩
          ·cases ek
         obtain⟨vY,hv⟩:=hr.DN x _ hx
         have JN:∀v w',(Builtin.copy_ #[t1,t2] o.type #[a.eval x,a.eval y]).run P w = .ok v w'→(execOp a.eval o).run P w = .ok (.value v) w':=by
          intro v w' aq
          simp[execOp,s6,resolve,invoke,builtin,aq]
         rcases hv with ⟨NO,D1,hv⟩|⟨b,cap,hb,hv,hc,Xc,nn,Bw,Tm⟩
         ·
          subst D1
          have Xd:k=0:=by rw[←g2];exact Nat.min_zero m
          subst Xd
          have JF:ps=[]:=by
           rcases(hr.aG.1 r _ na).1 with ⟨_,h2⟩|⟨b,arr,YK,hb,_⟩
           ·have h2:ps.map EV.pv=[]:=h2
            simpa using h2
           ·rw[NO] at hb;cases hb
          subst JF
          have F0:out=[]:=by rw[←g4];simp[ee]
          subst F0
          obtain⟨news,_,n2,n3,n4⟩:=Bz hS.1 hS.2 0 (Nat.zero_le _)
          have JD:news=[]:=List.eq_nil_of_length_eq_zero (by simpa using n2)
          subst JD
          have aq:(Builtin.copy_ #[t1,t2] o.type #[a.eval x,a.eval y]).run P w = .ok (goInt 0) w:=by
           rw[hv]
           simp[Builtin.copy_,run_underlying hu,sizeOf,typeInfo,hi,SN,←kF,n4 P,n3 P]
          unfold Oper.wp
          rw[JN _ _ aq]
          refine hk _ _ (Rel.Mx (s:=⟨nm s.env o.dst (.pv (.int .i64 (0:Nat))),s.aG⟩) ⟨fun _=>rfl,fun z => ?_⟩ ⟨β,I,hr.put (ej hd) (Rd.int _ _)⟩)
          show(aS.set s.aG r (.pure [])).get z=s.aG.get z
          rw[aS.kM]
          split
          ·rename_i hz;rw[hz.1,na];rfl
          ·rfl
         ·obtain⟨arr,yT,hg,NS,nq⟩:=(hr.aG.1 r _ na).1.block hb
          have NS:ps.length≤arr.size:=by simpa[SC.qR] using NS
          obtain⟨news,n1,n2,n3⟩:=CA (ty:=o.type) (sT:=t2) (I:=I) hu hi b off len cap hg hS.1 (by rw[SN,←kF];exact hS.2) g2 (by rw[SN,←kF];omega)
          rw[SN,←kF] at n1 n2
          rw[hv] at JN
          unfold Oper.wp
          rw[JN _ _ n3]
          have hlen:(arr.toList.take off++news++arr.toList.drop (off+news.length)).toArray.size=arr.size:=by simp;omega
          have hq:(qs.take (k*sz)).length=k*sz:=n1.1.trans n2
          have jD:=hr.write (sc' := .pure out) JC na hb hg hlen (fun j e he=>by
           have he:(out.map EV.pv)[j]? = some e:=he
           rw[←g4,List.getElem?_map,kd _ _ _ (by rw[hq];exact g3),hq] at he
           have s5:(arr.toList.take off++news++arr.toList.drop (off+news.length)).toArray[j]? = if off≤j∧j<off+k*sz then news[j-off]? else arr[j]? := by
            have:=kd arr.toList off news (by simp;omega) j
            unfold ee at this
            rw[←List.append_assoc] at this
            simp only[List.getElem?_toArray]
            rw[this,n2]
            simp
           rw[s5]
           by_cases hj:off≤j∧j<off+k*sz
           ·rw[if_pos hj] at he ⊢
            cases hp:(qs.take (k*sz))[j-off]? with
            |none=>rw[hp] at he;cases he
            |some p =>
             rw[hp] at he
             injection he with he;subst he
             have L0:j-off<news.length:=by rw[n2];omega
             obtain⟨k1,k2⟩:=n1.2 (j-off) p _ hp (List.getElem?_eq_getElem L0)
             exact⟨_,List.getElem?_eq_getElem L0,k2.kJ k1,k2⟩
           ·rw[if_neg hj] at he ⊢
            exact nq j e (by rw[←he];show(ps.map EV.pv)[j]? = _;rw[List.getElem?_map]))
          exact hk _ _ ⟨β,I,jD.put (ej hd) (Rd.int _ _)⟩
       ·cases aI
      ·cases aI
     ·cases aI
    ·cases aI
  ·cases aI
 ·cases aI
theorem OT(hr:dh Γ s a w β I){r m sz:Nat}{ey:EV}{v:Value}{qs:List PV}{ys:Option (List (List PV))}(ek:D9 s.aG r ey=some (m,qs,ys))(g2:Ea m sz qs ys)(G8:RE β (bM s.aG) I w ey v):Src w I v m qs∧qs.length=m*sz:=by
 unfold D9 at ek
 split at ek
 ·rename_i r2 m2 I8
  cases hq:Nat.beq r2 r with
  |true=>simp[hq] at ek
  |false =>
   simp only[hq,cond_false] at ek
   split at ek
   ·rename_i Tz SO
    injection ek with ek;injection ek with e1 ek;injection ek with e2 e3
    subst e1;subst e2;subst e3
    have Ja:Tz.length=m2*sz:=g2
    exact⟨G9 G8 (hr.aG.1 r2 _ SO).1 Ja,Ja⟩
   ·cases ek
 ·rename_i Xe
  injection ek with ek;injection ek with e1 ek;injection ek with e2 e3
  subst e1;subst e2;subst e3
  exact⟨yS G8 g2,uK g2⟩
 ·cases ek
def Ha(T:j0)(n:Nat)(o:Oper)(h:Hint)(s:St):Option (St×List Prop):=uO D9 T n o h s
theorem A6(hT:mC P T)(hs:∀r,bM Γ.sin r→Γ.n≤r)(hr:Rel Γ s a w)(aI:Ha T Γ.n o h s=some (s',ob))(cb:dA ob){K:Act→World→Prop}{Q:Exit→Act→World→Prop}
  (hk:∀a' w',Rel Γ s' a' w'→K a' w'):o.wp P a w K Q:=rl (fun hr=>OT hr) hT hs hr aI cb hk
def F4:OL:=fun aG r e =>
 match e with
 |.row r2 off m I8=>bif Nat.beq r2 r then none else match aG.get r2 with
  |some (.pure qs)=>some (m,(qs.drop off).take (m*I8),none)
  |_=>none
 |.pv (.list ys)=>some (ys.length,ys.flatten,some ys)
 |_=>none
theorem JO{r off m sz I8:Nat}{v:Value}{L:Nat→Prop}{qs:List PV}(hv:RE β L I w (.row r off m I8) v)(hb:RB β L I w r (qs.map EV.pv))(hl:((qs.drop off).take (m*I8)).length=m*sz):Src w I v m ((qs.drop off).take (m*I8)):=by
 obtain⟨_,⟨hn,rfl,rfl⟩|⟨b,c,mS,rfl,_⟩⟩:=hv
 ·exact .inl ⟨none,0,rfl,rfl,by simp⟩
 ·obtain⟨arr,el,hg,NS,hc⟩:=hb.block mS
  refine .inr ⟨b,off,c,(arr.toList.drop off).take ((qs.drop off).take (m*I8)).length,rfl,fun j u hu => ?_,?_,fun j p u hp hu => ?_⟩
  ·rw[List.getElem?_take] at hu
   split at hu
   ·rw[List.getElem?_drop] at hu
    rw[cell_of_row w b (off+j) arr el (0,0) hg];simpa using hu
   ·cases hu
  ·have hq:qs.length≤arr.size:=by simpa using NS
   simp only[List.length_take,List.length_drop,Array.length_toList]
   omega
  ·rw[List.getElem?_take] at hp hu
   split at hu
   ·split at hp
    ·rw[List.getElem?_drop] at hp hu
     obtain⟨u',g1,g2,g3⟩:=hc (off+j) (.pv p) (by rw[List.getElem?_map,hp];rfl)
     have:u'=u:=by simpa[g1] using hu
     subst this
     exact⟨PV.oa g3 g2,g3⟩
    ·cases hp
   ·cases hu
theorem MA(hr:dh Γ s a w β I){r m sz:Nat}{ey:EV}{v:Value}{qs:List PV}{ys:Option (List (List PV))}(ek:F4 s.aG r ey=some (m,qs,ys))(g2:Ea m sz qs ys)(G8:RE β (bM s.aG) I w ey v):Src w I v m qs∧qs.length=m*sz:=by
 unfold F4 at ek
 split at ek
 ·rename_i r2 off m2 I8
  cases hq:Nat.beq r2 r with
  |true=>simp[hq] at ek
  |false =>
   simp only[hq,cond_false] at ek
   split at ek
   ·rename_i Tz SO
    injection ek with ek;injection ek with e1 ek;injection ek with e2 e3
    subst e1;subst e2;subst e3
    have Ja:((Tz.drop off).take (m2*I8)).length=m2*sz:=g2
    exact⟨JO G8 (hr.aG.1 r2 _ SO).1 Ja,Ja⟩
   ·cases ek
 ·rename_i Xe
  injection ek with ek;injection ek with e1 ek;injection ek with e2 e3
  subst e1;subst e2;subst e3
  exact⟨yS G8 g2,uK g2⟩
 ·cases ek
theorem Rel.cut(hr:Rel Γ s a w){r k:Nat}{ps:List PV}(na:s.aG.get r=some (.pure ps)):Rel Γ ⟨s.env,aS.set s.aG r (.pure (ps.take k))⟩ a w:=by
 obtain⟨β,I,hr⟩:=hr
 have hL:∀x,bM s.aG x→bM (aS.set s.aG r (.pure (ps.take k))) x:=fun x hx=>fT.2 hx
 refine⟨β,I,fun t e he=>(hr.env t e he).mono (fun _ _=>rfl) hL (fun _ h=>h) (fun _ _ _=>rfl) (fun _ _ _ _=>rfl),⟨fun x sc hx => ?_,fun x y b hx hy=>hr.aG.2 x y b (fT.1 hx) (fT.1 hy)⟩,
  fun x hx=>hr.par x (fT.1 hx),fun x b hx=>hr.new x b (fT.1 hx),hr.ib,hr.ii,hr.aH,hr.size,hr.defers⟩
 have hx:(aS.set s.aG r (.pure (ps.take k))).get x=some sc:=hx
 rw[aS.kM] at hx
 by_cases A2:x=r∧r<999999
 ·obtain⟨rfl,JC⟩:=A2
  rw[if_pos ⟨rfl,JC⟩,na] at hx
  simp only[Option.map_some,Option.some.injEq] at hx
  subst hx
  obtain⟨k1,k2⟩:=hr.aG.1 x _ na
  refine⟨?_,k2⟩
  rcases k1 with ⟨c1,c2⟩|⟨b,arr,el,c1,c2,c3⟩
  ·have c2:ps.map EV.pv=[]:=c2
   exact .inl ⟨c1,by show(ps.take k).map EV.pv=[];rw[List.map_take,c2];simp⟩
  ·refine .inr ⟨b,arr,el,c1,c2,fun i e he => ?_⟩
   have he:((ps.take k).map EV.pv)[i]? = some e:=he
   rw[List.map_take] at he
   have bh:=(List.getElem?_eq_some_iff.1 he).1
   rw[List.length_take] at bh
   rw[List.getElem?_take_of_lt (by omega)] at he
   obtain⟨u,d1,d2,d3⟩:=c3 i e he
   exact⟨u,d1,d2,d3.mono (fun _ _=>rfl) hL (fun _ h=>h) (fun _ _ _=>rfl) (fun _ _ _ _=>rfl)⟩
 ·rw[if_neg A2] at hx
  obtain⟨k1,k2⟩:=hr.aG.1 x sc hx
  exact⟨k1.mono rfl (fun _ _=>rfl) (fun _ _=>rfl) hL (fun _ h=>h) (fun _ _ _=>rfl) (fun _ _ _ _=>rfl),k2⟩
end
end Go.Proofs.YtllmkadmohkbfaaGreatDoor.Sym
