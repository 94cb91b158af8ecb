/- Lemmas for the statements of this seat. -/
import Derived.Test.YtfjfekodeplcoaaGreatWSymK
namespace Go.Proofs.YtfjfekodeplcoaaGreat.Sym
open Go Go.RowKit
section
variable {P:Program} {T:ja} {Γ:Ctx} {s s':St} {a:Act} {w:World} {β:Nat→Option Nat} {I:Nat→Prop} {o:Oper} {h:Hint} {ob:List Prop}
theorem yE{b sz:Nat} : ∀(ys:List (List PV)) (o:Nat) (f:Nat→Nat→Value),(∀row∈ys,row.length=sz) →
  (∀(i j:Nat) row x,ys[i]? = some row→row[j]? = some x→w.cell? ⟨b,o+(i*sz+j),none⟩=some (f i j)∧x.one=true∧Rd I w x (f i j)) →
  ∃us:List Value,(∀(j:Nat) u,us[j]? = some u→w.cell? ⟨b,o+j,none⟩=some u)∧bT I w ys.flatten us
 |[],o,f,_,_=>⟨[],fun j u h=>by simp at h,rfl,fun j c u h=>by simp at h⟩
 |row::ys,o,f,hl,h=>by
  have kK:row.length=sz:=hl row (by simp)
  obtain⟨us,h1,h2⟩:=yE ys (o+sz) (fun i j=>f (i+1) j) (fun r hr=>hl r (by simp[hr])) (fun i j r x hi hj=>by
   have:=h (i+1) j r x (by simpa using hi) hj
   rw[show o+sz+(i*sz+j)=o+((i+1)*sz+j) from by rw[Nat.add_mul];omega]
   exact this)
  have fS:∀(j:Nat),((List.range sz).map (f 0)++us)[j]? = if j<sz then some (f 0 j) else us[j-sz]? := by
   intro j
   rw[List.getElem?_append]
   simp only[List.length_map,List.length_range]
   by_cases hj:j<sz
   ·rw[if_pos hj,if_pos hj,List.getElem?_map,List.getElem?_range hj];rfl
   ·rw[if_neg hj,if_neg hj]
  refine⟨(List.range sz).map (f 0)++us,fun j u hu => ?_,by simp[kK];simpa using h2.1,fun j c u hc hu => ?_⟩
  ·rw[fS] at hu
   by_cases hj:j<sz
   ·rw[if_pos hj] at hu
    injection hu with hu;subst hu
    have hx:row[j]? = some row[j]:=List.getElem?_eq_getElem (by omega)
    have:=(h 0 j row _ rfl hx).1
    simpa using this
   ·rw[if_neg hj] at hu
    have:=h1 _ u hu
    rw[show o+sz+(j-sz)=o+j from by omega] at this
    exact this
  ·rw[fS] at hu
   rw[List.flatten_cons,List.getElem?_append] at hc
   by_cases hj:j<sz
   ·rw[if_pos hj] at hu
    rw[if_pos (by omega)] at hc
    injection hu with hu;subst hu
    exact(h 0 j row c rfl hc).2
   ·rw[if_neg hj] at hu
    rw[if_neg (by omega),kK] at hc
    exact h2.2 _ c u hc hu
theorem pK{sz:Nat} : ∀{ys:List (List PV)},(∀row∈ys,row.length=sz)→ys.flatten.length=ys.length*sz
 |[],_=>by simp
 |row::ys,h=>by
  have:=pK (sz:=sz) (ys:=ys) (fun r hr=>h r (by simp[hr]))
  have:=h row (by simp)
  simp only[List.flatten_cons,List.length_append,List.length_cons,Nat.succ_mul]
  omega
def Src(w:World)(I:Nat→Prop)(y:Value)(m:Nat)(qs:List PV):Prop :=
 (∃ao c,y = .slice ao 0 c∧m=0∧qs=[])∨∃b o c us,y = .slice (some ⟨b,o,none⟩) m c∧(∀(j:Nat) u,us[j]? = some u→w.cell? ⟨b,o+j,none⟩=some u)∧bT I w qs us
theorem yF{ys:List (List PV)}{v:Value}{sz:Nat}(hv:Rd I w (.list ys) v)(hs:∀row∈ys,row.length=sz):Src w I v ys.length ys.flatten:=by
 cases hv with
 |nil ao c=>exact .inl ⟨ao,c,rfl,rfl,rfl⟩
 |list _ b o c s f hc hb LD ho hh =>
  have jC:∀row∈ys,row.length=s:=fun row hr=>by
   obtain⟨i,hi⟩:=List.mem_iff_getElem?.1 hr
   exact LD i row hi
  obtain⟨us,h1,h2⟩:=yE (w:=w) (I:=I) (b:=b) (sz:=s) ys o f jC (fun i j row x hi hj=>⟨(ho i j row x hi hj).2,(ho i j row x hi hj).1,hh i j row x hi hj⟩)
  exact .inr ⟨b,o,c,us,rfl,h1,h2⟩
theorem FP{r m sz C2:Nat}{v:Value}{L:Nat→Prop}{qs:List PV}(hv:RE β L I w (.row r 0 m C2) v)(hb:RB β L I w r (qs.map EV.pv))(hl:qs.length=m*sz):Src w I v m qs:=by
 obtain⟨_,⟨hn,rfl,rfl⟩|⟨b,c,j5,rfl,_⟩⟩:=hv
 ·exact .inl ⟨none,0,rfl,rfl,List.eq_nil_of_length_eq_zero (by simpa using hl)⟩
 ·obtain⟨arr,el,hg,Ht,hc⟩:=hb.block j5
  refine .inr ⟨b,0,c,arr.toList.take qs.length,rfl,fun j u hu => ?_,by simp at Ht ⊢;omega,fun j p u hp hu => ?_⟩
  ·rw[List.getElem?_take] at hu
   split at hu
   ·rw[Nat.zero_add,cell_of_row w b j arr el (0,0) hg];simpa using hu
   ·cases hu
  ·rw[List.getElem?_take] at hu
   split at hu
   ·obtain⟨u',g1,g2,g3⟩:=hc j (.pv p) (by rw[List.getElem?_map,hp];rfl)
    have:u'=u:=by simpa[g1] using hu
    subst this
    exact⟨PV.gO g3 g2,g3⟩
   ·cases hu
theorem mO{t e:TypeId}{de:TD}(hu:P.underlying t=some (.slice e))(hd:ov P e de)(ty:TypeId)(ao bo:Option Addr)(len cap c:Nat)(hc:len≤cap) :
  (Builtin.append_ #[t,t] ty #[.slice ao len cap,.slice bo 0 c]).run P w = .ok (.slice ao len cap) w:=by
 cases ao<;>cases bo<;>simp[Builtin.append_,run_underlying hu,hd.run_sizeOf w,Builtin.lenOf,Builtin.firstCells,hc,loadCells,loadCellsFrom,storeCells]
theorem rH{β':Nat→Option Nat}{L':Nat→Prop}{d b:Nat}{ps:List PV}{arr:Array Value}{el:TypeId}(hg:w.heap[b]? = some (.cells arr el (0,0)))
  (hc:∀(j:Nat) p,ps[j]? = some p→∃u,arr[j]? = some u∧u.oneCell'=true∧Rd I w p u) (hb:β' d=some b):RB β' L' I w d (ps.map EV.pv):=by
 refine .inr ⟨b,arr,el,hb,hg,fun j e he => ?_⟩
 rw[List.getElem?_map] at he
 cases hj:ps[j]? with
 |none=>simp[hj] at he
 |some p =>
  simp[hj] at he
  subst he
  exact hc j p hj
theorem qo{r b:Nat}{L:Nat→Prop}{ps:List PV}(h:RB β L I w r (ps.map EV.pv))(hb:β r=some b) :
  ∃arr el,w.heap[b]? = some (.cells arr el (0,0))∧ps.length≤arr.size∧∀(j:Nat) p,ps[j]? = some p→∃u,arr[j]? = some u∧u.oneCell'=true∧Rd I w p u:=by
 obtain⟨arr,el,h1,h2,h3⟩:=h.block hb
 refine⟨arr,el,h1,by simpa using h2,fun j p hp=>h3 j (.pv p) (by rw[List.getElem?_map,hp];rfl)⟩
theorem uG(r:Nat)(hr:r<999999)(sc:SC):∀(s:aG),bz r (aG.EH s r sc)=bz r s
 |[]=>rfl
 |(r',c)::s=>by
  have dy:Nat.blt r 999999=true:=Nat.ble_eq_true_of_le hr
  simp only[aG.EH]
  cases hb:Nat.beq r' r with
  |true=>simp[bz,hb,dy]
  |false=>simp[bz,hb,uG r hr sc s]
theorem oC(r:Nat)(sc:SC)(s:aG):bz r (aG.set s r sc)=bz r s:=by
 unfold aG.set
 by_cases hr:r<999999
 ·rw[show Nat.blt r 999999=true from Nat.ble_eq_true_of_le hr]
  exact uG r hr sc s
 ·rw[show Nat.blt r 999999=false from Bool.eq_false_iff.2 (fun h=>hr (Nat.le_of_ble_eq_true h))]
  rfl
theorem kU(hr:cq Γ s a w β I){r d len sz:Nat}{out:List PV}{v:Value}(j0:d<Γ.n)(ni:¬aS Γ.sin d)(nj:¬aS (bz r s.sto) d){ob:Option Nat}
  (hb:∀b,ob=some b→b<w.heap.size∧¬I b∧Γ.Nw b∧∀x,aS (bz r s.sto) x→β x≠some b)
  (xz:RB (fun x=>if x=d then ob else β x) (fun x=>aS (bz r s.sto) x∨x=d) I w d (out.map EV.pv))
  (hv:(ob=none∧len=0∧v = .slice none 0 0)∨∃b c,ob=some b∧v = .slice (some ⟨b,0,none⟩) len c∧len≤c∧∃el n,w.shape? b=some (el,n)∧0+c*sz≤n) :
  Rel Γ ⟨jg (kill r s).env (some d) (.row d 0 len sz),(d,.pure out)::(kill r s).sto⟩ (a.put (some d) v) w:=by
 have h1:=hr.kill r
 have mh:d<999999:=Nat.lt_of_lt_of_le j0 Γ.small
 have h2:=h1.site (d:=d) (sc := .pure out) mh nj ni (β':=fun x=>if x=d then ob else β x) (fun x hx=>if_neg hx) (fun b cI=>hb b (by simpa using cI)) xz
 refine⟨_,_,h2.put (dst:=some d) (fun d' Ee=>by injection Ee with Ee;rw[←Ee];exact j0) ⟨(cZ mh).2 (.inl rfl),?_⟩⟩
 simpa using hv
theorem kg{t e rh:TypeId}{i:TypeInfo}(ht:P.underlying t=some (.slice e))(hi:P.info? e=some i)(ty:TypeId)
  (g kL sV:Nat) (cur:Array Value) (hg:w.heap[g]? = some (.cells cur rh (0,0)))
  (ad:Addr) (m c:Nat) (news:List Value) (hl:news.length=m*i.size) (C3:∀j u,news[j]? = some u→w.cell? (ad.add j)=some u) (h1:∀u∈news,u.oneCell'=true)
  (lO:kL+m≤sV) (rF:kL*i.size+news.length≤cur.size) :
  (Builtin.append_ #[t,t] ty #[.slice (some ⟨g,0,none⟩) kL sV,.slice (some ad) m c]).run P w =
   .ok (.slice (some ⟨g,0,none⟩) (kL+m) sV) (w.setRow g (cur.toList.take (kL*i.size)++news++cur.toList.drop (kL*i.size+news.length)).toArray):=by
 have hf:=run_firstCells_some (P:=P) w i.size m ad m c news hl C3
 have aD:=run_storeCells_at P g (kL*i.size) rh news 0 cur w hg (by simpa using rF) h1
 simp only[Nat.add_zero] at aD
 simp[Builtin.append_,run_underlying ht,sizeOf,typeInfo,hi,Builtin.lenOf,lO,hf,Addr.add_lit,aD]
def C4(sto:aG)(r:Nat)(e:EV):Option (Nat×List PV×Option (List (List PV))) :=
 match e with
 |.row r2 0 m _=>bif Nat.beq r2 r then none else match sto.get r2 with
  |some (.pure qs)=>some (m,qs,none)
  |_=>none
 |.pv (.list ys)=>some (ys.length,ys.flatten,some ys)
 |_=>none
def C5(m sz:Nat)(qs:List PV):Option (List (List PV))→Prop
 |none=>qs.length=m*sz
 |some ys=>∀row∈ys,row.length=sz
abbrev MC:=aG→Nat→EV→Option (Nat×List PV×Option (List (List PV)))
def uH(src:MC)(T:ja)(n:Nat)(o:Oper)(h:Hint)(s:St):Option (St×List Prop) :=
 match o.op,o.dst,h with
 |.call c,some d,.app lJ out=>match c.callee,c.args.toList,c.argTypes.toList with
  |.builtin .append,[x,y],[t1,t2]=>bif Nat.beq t1 t2&&Nat.blt d n then
    match T.get t1 with
    |some dt=>match dt.kind with
     |.slice el=>match T.get el,cA s.env x,cA s.env y with
      |some de,some (.row r 0 len sz),some ey=>match s.sto.get r,src s.sto r ey,(kill r s).sto.get d with
       |some (.pure ps),some (m,qs,ys),none=>bif Nat.beq sz de.size&&Nat.ble 1 sz&&Nat.blt r n then
         some (⟨jg (kill r s).env (some d) (.row d 0 lJ sz),(d,.pure out)::(kill r s).sto⟩,
          [ps.length=len*sz,C5 m sz qs ys,len+m=lJ,ps++qs=out,lJ*de.bytes≤140737488355328,lJ<9223372036854775808])
        else none
       |_,_,_=>none
      |_,_,_=>none
     |_=>none
    |none=>none
   else none
  |_,_,_=>none
 |_,_,_=>none
theorem rI{src:MC}(HS:∀{β:Nat→Option Nat} {I:Nat→Prop},cq Γ s a w β I→∀{r m sz:Nat} {ey:EV} {v:Value} {qs:List PV} {ys:Option (List (List PV))},src s.sto r ey=some (m,qs,ys)→C5 m sz qs ys→RE β (aS s.sto) I w ey v→Src w I v m qs∧qs.length=m*sz)(hT:lH P T)(hs:∀r,aS Γ.sin r→Γ.n≤r)(hr:Rel Γ s a w)(aD:uH src T Γ.n o h s=some (s',ob))(bK:cW ob){K:Act→World→Prop}{Q:Exit→Act→World→Prop}
  (hk:∀a' w',Rel Γ s' a' w'→K a' w'):o.wp P a w K Q:=by
 obtain⟨β,I,hr⟩:=hr
 unfold uH at aD
 split at aD
 ·rename_i c d lJ out ml ow
  split at aD
  ·rename_i x y t1 t2 jb fZ yA
   cases ux:(Nat.beq t1 t2&&Nat.blt d Γ.n) with
   |false=>simp[ux] at aD
   |true =>
    simp only[ux,cond_true] at aD
    simp only[Bool.and_eq_true] at ux
    have cw:t1=t2:=Nat.eq_of_beq_eq_true ux.1
    have j0:d<Γ.n:=Nat.le_of_ble_eq_true ux.2
    subst cw
    split at aD
    ·rename_i dt GP
     split at aD
     ·rename_i el wT
      obtain⟨un,hu,_,hf⟩:=(hT t1 dt GP).under
      rw[wT] at hf
      have hf:un = .slice el:=hf
      subst hf
      split at aD
      ·rename_i de r len sz ey lI hx hy
       split at aD
       ·rename_i ps m qs ys jf eF oB
        cases nh:(Nat.beq sz de.size&&Nat.ble 1 sz&&Nat.blt r Γ.n) with
        |false=>simp[nh] at aD
        |true =>
         simp only[nh,cond_true] at aD
         simp only[Bool.and_eq_true] at nh
         have jC:sz=de.size:=Nat.eq_of_beq_eq_true nh.1.1
         have vP:1≤sz:=Nat.le_of_ble_eq_true nh.1.2
         have GQ:r<Γ.n:=Nat.le_of_ble_eq_true nh.2
         injection aD with aD;injection aD with h1 h2
         subst h1;subst h2
         obtain⟨g1,bK⟩:=bK.cons
         obtain⟨g2,bK⟩:=bK.cons
         obtain⟨g3,bK⟩:=bK.cons
         obtain⟨g4,bK⟩:=bK.cons
         obtain⟨g5,g6⟩:=bK.cons
         have g6:lJ<9223372036854775808:=g6
         subst g3;subst g4
         obtain⟨i,hi,uq,Ka,z,hz,_,ta,_⟩:=(hT el de lI).info
         have hex:=hr.uD x _ hx
         have CJ:=hr.uD y _ hy
         obtain⟨sq,kK⟩:=hex
         have xz:=(hr.sto.1 r _ jf).1
         have EK:¬aS Γ.sin r:=fun h=>by have:=hs r h;omega
         have ni:¬aS Γ.sin d:=fun h=>absurd (hs d h) (Nat.not_le_of_lt j0)
         have nj:¬aS (kill r s).sto d:=by unfold aS;rw[oB];simp
         have OY:Src w I (a.eval y) m qs∧qs.length=m*sz:=HS hr eF g2 CJ
         obtain⟨HZ,CK⟩:=OY
         have A2:∀v' w',(Builtin.append_ #[t1,t1] o.type #[a.eval x,a.eval y]).run P w = .ok v' w'→Rel Γ ⟨jg (kill r s).env (some d) (.row d 0 (len+m) sz),(d,.pure (ps++qs))::(kill r s).sto⟩ (a.put (some d) v') w'→o.wp P a w K Q:=by
          intro v' w' aw gY
          have gV:=sS fZ
          have nO:=sS yA
          obtain⟨cl,args,CY⟩:=c
          simp only at jb gV nO
          subst jb;subst gV;subst nO
          unfold Oper.wp execOp
          simp only[ml,resolve,invoke,builtin,Sem.run_bind,Sem.run_pure,Result.andThen_ok,List.map_toArray,List.map_cons,List.map_nil,aw]
          show K (a.put o.dst v') w'
          rw[ow]
          exact hk _ _ gY
         have lU:(len+m)*i.bytes≤140737488355328:=by rw[Ka];exact g5
         have MD:len+m≤maxLen:=by unfold maxLen;omega
         have Kb:∀b,β r=some b→∀x,aS (bz r s.sto) x→β x≠some b:=fun b hb x hx e =>
          (bW.1 hx).2 (hr.sto.2 x r b (bW.1 hx).1 sq e hb)
         rcases kK with ⟨Hs,tC,td⟩|⟨b,cap,j5,td,GK,Ra,nx,q9,rF⟩
         ·
          subst tC
          have H0:ps=[]:=List.eq_nil_of_length_eq_zero (by simpa using g1)
          subst H0
          rcases HZ with ⟨ao,c2,rE,rfl,rfl⟩|⟨b2,o2,c2,us,rE,xW,q8⟩
          ·refine A2 _ _ (by rw[td,rE];exact mO hu (hT el de lI) _ none ao 0 0 c2 (Nat.le_refl _)) ?_
           exact kU hr (ob:=none) j0 ni nj (fun b hb=>by cases hb) (.inl ⟨by simp,rfl⟩) (.inl ⟨rfl,rfl,rfl⟩)
          ·have rr:us.length=m*i.size:=by rw[←q8.1,uq,←jC];exact CK
           have xC:∀(j:Nat) u,us[j]? = some u→w.cell? ((⟨b2,o2,none⟩:Addr).add j)=some u:=fun j u Es=>by rw[eC];exact xW j u Es
           rcases Nat.eq_zero_or_pos m with Eg|Eg
           ·subst Eg
            have Kw:qs=[]:=List.eq_nil_of_length_eq_zero (by simpa using CK)
            subst Kw
            refine A2 _ _ (by rw[td,rE];exact mO hu (hT el de lI) _ none _ 0 0 c2 (Nat.le_refl _)) ?_
            exact kU hr (ob:=none) j0 ni nj (fun b hb=>by cases hb) (.inl ⟨by simp,rfl⟩) (.inl ⟨rfl,rfl,rfl⟩)
           ·have aw:=run_append_nil (P:=P) w t1 o.type el i z hu hi hz ⟨b2,o2,none⟩ m c2 us rr xC Eg (by omega) (by simp only[Nat.zero_add] at lU;omega)
            refine A2 _ _ (by rw[td,rE];exact aw) ?_
            have mm:cq Γ s a (w.drew.alloc (.cells (us.toArray++Builtin.zeroCells z.cells (grownCap w m 0 el-m)) el)) β I :=
             hr.grow (((ur.refl _ _).drew).alloc (Nat.le_refl _) _) (fun b h=>h) (fun b h => .inl h)
            have iv:(w.drew.alloc (.cells (us.toArray++Builtin.zeroCells z.cells (grownCap w m 0 el-m)) el)).heap[w.heap.size]? = some (.cells (us.toArray++Builtin.zeroCells z.cells (grownCap w m 0 el-m)) el (0,0)):=heap_alloc_new w.drew _
            have rz:=grownCap_ge w m 0 el
            have lT:∀(j:Nat) p,(([]:List PV)++qs)[j]? = some p→∃u,(us.toArray++Builtin.zeroCells z.cells (grownCap w m 0 el-m))[j]? = some u∧u.oneCell'=true∧Rd I (w.drew.alloc (.cells (us.toArray++Builtin.zeroCells z.cells (grownCap w m 0 el-m)) el)) p u:=by
             intro j p hp
             simp only[List.nil_append] at hp
             have hj:j<us.length:=by rw[←q8.1];exact(List.getElem?_eq_some_iff.1 hp).1
             obtain⟨q1,q2⟩:=q8.2 j p us[j] hp (List.getElem?_eq_getElem hj)
             refine⟨us[j],by rw[Array.getElem?_append_left (by simpa using hj)];simp[hj],q2.iN q1,q2.mono (fun _ h=>h) (fun b o hI=>dM (Below.heap_alloc w.drew _ b (hr.ib b hI)) o)⟩
            refine kU mm (ob:=some w.heap.size) j0 ni nj (fun b hb => ?_) (rH iv lT (by simp)) (.inr ⟨w.heap.size,grownCap w m 0 el,rfl,by simp,by simpa using rz,el,_,by unfold World.shape?;rw[iv],?_⟩)
            ·injection hb with hb;subst hb
             exact⟨by simp,fun hI=>Nat.lt_irrefl _ (hr.ib _ hI),(.inl hr.aN.size),fun x hx e=>Nat.lt_irrefl _ (hr.lb x _ (bW.1 hx).1 e)⟩
            ·simp only[Array.size_append,List.size_toArray,rr,size_zeroCells,ta,uq,jC]
             rw[←Nat.add_mul]
             have:m+(grownCap w m 0 el-m)=grownCap w m 0 el:=by omega
             rw[this];omega
         ·
          have GR:Γ.Nw b:=hr.new r b sq (.inl EK) j5
          have A1:=((hr.sto.1 r _ jf).2 b j5)
          obtain⟨arr,rh,hg,Et,ot⟩:=qo xz j5
          have EL:w.shape? b=some (rh,arr.size):=by unfold World.shape?;rw[hg]
          have vJ:nx=arr.size:=by
           rw[EL] at q9;injection q9 with q9;injection q9 with h1 h2;exact h2.symm
          subst vJ
          rcases Nat.eq_zero_or_pos m with Eg|Eg
          ·have rE:∃bo c2,a.eval y = .slice bo 0 c2:=by
            rcases HZ with ⟨ao,c2,rE,_⟩|⟨b2,o2,c2,us,rE,_⟩
            ·exact⟨_,_,rE⟩
            ·exact⟨_,_,by rw[rE,Eg]⟩
           obtain⟨bo,c2,rE⟩:=rE
           subst Eg
           have Kw:qs=[]:=List.eq_nil_of_length_eq_zero (by simpa using CK)
           subst Kw
           refine A2 _ _ (by rw[td,rE];exact mO hu (hT el de lI) _ _ _ len cap c2 GK) ?_
           exact kU hr (ob:=some b) j0 ni nj (fun b' cI=>by injection cI with cI;subst cI;exact⟨A1.1,A1.2,GR,Kb b j5⟩)
            (rH hg (fun j p hp=>ot j p (by simpa using hp)) (by simp)) (.inr ⟨b,cap,rfl,rfl,GK,rh,_,EL,rF⟩)
          ·rcases HZ with ⟨_,_,_,hm,_⟩|⟨b2,o2,c2,us,rE,xW,q8⟩
           ·omega
           have rr:us.length=m*i.size:=by rw[←q8.1,uq,←jC];exact CK
           have xC:∀(j:Nat) u,us[j]? = some u→w.cell? ((⟨b2,o2,none⟩:Addr).add j)=some u:=fun j u Es=>by rw[eC];exact xW j u Es
           have EM:∀u∈us,u.oneCell'=true:=fun u Es=>by
            obtain⟨j,hj⟩:=List.mem_iff_getElem?.1 Es
            have C1:j<qs.length:=by rw[q8.1];exact(List.getElem?_eq_some_iff.1 hj).1
            obtain⟨q1,q2⟩:=q8.2 j _ u (List.getElem?_eq_getElem C1) hj
            exact q2.iN q1
           have xD:len*i.size=ps.length:=by rw[uq,←jC];exact g1.symm
           have Rb:cap*sz≤arr.size:=by omega
           by_cases lO:len+m≤cap
           ·have H2:len*i.size+us.length≤arr.size:=by
             have h3:(len+m)*sz≤cap*sz:=Nat.mul_le_mul_right _ lO
             rw[Nat.add_mul] at h3
             rw[rr,uq,←jC];omega
            have aw:=kg (P:=P) hu hi o.type b len cap arr hg ⟨b2,o2,none⟩ m c2 us rr xC EM lO H2
            refine A2 _ _ (by rw[td,rE];exact aw) ?_
            have yG:(arr.toList.take (len*i.size)++us++arr.toList.drop (len*i.size+us.length)).toArray.size=arr.size:=by
             simp;omega
            have fS:∀j,(arr.toList.take (len*i.size)++us++arr.toList.drop (len*i.size+us.length)).toArray[j]? = if len*i.size≤j∧j<len*i.size+us.length then us[j-len*i.size]? else arr[j]? := by
             intro j
             have:=dI arr.toList (len*i.size) us (by simp;omega) j
             unfold cF at this
             rw[←List.append_assoc] at this
             simp only[List.getElem?_toArray]
             rw[this]
             simp only[Array.getElem?_toList]
            have rJ:∀(j:Nat) p,(ps++qs)[j]? = some p→∃u,(arr.toList.take (len*i.size)++us++arr.toList.drop (len*i.size+us.length)).toArray[j]? = some u∧u.oneCell'=true∧Rd I w p u:=by
             intro j p hp
             rw[fS j]
             rw[List.getElem?_append] at hp
             by_cases hj:j<ps.length
             ·rw[if_pos hj] at hp
              rw[if_neg (by omega)]
              exact ot j p hp
             ·rw[if_neg hj] at hp
              have ME:=(List.getElem?_eq_some_iff.1 hp).1
              have H3:j-ps.length<us.length:=by rw[←q8.1];exact ME
              rw[if_pos (by omega),xD]
              obtain⟨q1,q2⟩:=q8.2 _ p us[j-ps.length] hp (List.getElem?_eq_getElem H3)
              exact⟨_,List.getElem?_eq_getElem H3,q2.iN q1,q2⟩
            have MF:=hr.write (sc' := .pure (ps++qs)) (Nat.lt_of_lt_of_le GQ Γ.small) jf j5 hg yG (fun j e' fj=>by
             simp only[SC.jc,List.getElem?_map] at fj
             cases hp:(ps++qs)[j]? with
             |none=>simp[hp] at fj
             |some p =>
              simp[hp] at fj
              subst fj
              exact rJ j p hp)
            have rK:bz r (aG.set s.sto r (.pure (ps++qs)))=bz r s.sto:=oC r _ s.sto
            have EN:kill r ⟨s.env,aG.set s.sto r (.pure (ps++qs))⟩=kill r s:=by unfold kill;simp only[rK]
            have yH:=kU MF (r:=r) (d:=d) (len:=len+m) (sz:=sz) (out:=ps++qs) (v := .slice (some ⟨b,0,none⟩) (len+m) cap) (ob:=some b) j0 ni (by rw[rK];exact nj)
             (fun b' cI=>by
              injection cI with cI;subst cI
              rw[rK]
              exact⟨by simpa[World.setRow] using A1.1,A1.2,GR,Kb b j5⟩)
             (rH (setRow_heap w b arr _ rh (0,0) hg) (fun j p hp=>by
              obtain⟨u,q1,q2,q3⟩:=rJ j p hp
              exact⟨u,q1,q2,q3.mono (fun _ h=>h) (fun b' o' hI=>dM (setRow_other w b b' _ (fun e=>A1.2 (e ▸ hI))) o')⟩) (by simp))
             (.inr ⟨b,cap,rfl,rfl,lO,rh,arr.size,by rw[kT w b b _ arr rh (0,0) hg yG];exact EL,rF⟩)
            rw[EN] at yH
            exact yH
           ·have yI:(arr.toList.take ps.length).length=len*i.size:=by simp;omega
            have holds:∀(j:Nat) v,(arr.toList.take ps.length)[j]? = some v→w.cell? ((⟨b,0,none⟩:Addr).add j)=some v:=by
             intro j v hv
             rw[eC,Nat.zero_add,cell_of_row w b j arr rh (0,0) hg]
             rw[List.getElem?_take] at hv
             split at hv
             ·simpa using hv
             ·cases hv
            have aw:=run_append_grow (P:=P) w t1 o.type el i z hu hi hz ⟨b,0,none⟩ len cap (arr.toList.take ps.length) yI holds ⟨b2,o2,none⟩ m c2 us rr xC (by omega) (by omega) (growslice_fits (by omega) lU)
            refine A2 _ _ (by rw[td,rE];exact aw) ?_
            generalize hW:((arr.toList.take ps.length).toArray++us.toArray++Builtin.zeroCells z.cells (grownCap w (len+m) cap el-(len+m)):Array Value)=narr
            have mm:cq Γ s a (w.drew.alloc (.cells narr el)) β I :=
             hr.grow (((ur.refl _ _).drew).alloc (Nat.le_refl _) _) (fun b h=>h) (fun b h => .inl h)
            have iv:(w.drew.alloc (.cells narr el)).heap[w.heap.size]? = some (.cells narr el (0,0)):=heap_alloc_new w.drew _
            have rz:=grownCap_ge w (len+m) cap el
            have uI:∀{p:PV} {u:Value},Rd I w p u→Rd I (w.drew.alloc (.cells narr el)) p u:=fun h=>h.mono (fun _ h=>h) (fun b o hI=>dM (Below.heap_alloc w.drew _ b (hr.ib b hI)) o)
            have lT:∀(j:Nat) p,(ps++qs)[j]? = some p→∃u,narr[j]? = some u∧u.oneCell'=true∧Rd I (w.drew.alloc (.cells narr el)) p u:=by
             intro j p hp
             have Ed:(arr.toList.take ps.length).length=ps.length:=by simp;omega
             have uJ:narr[j]? = if j<ps.length then arr[j]? else if j<ps.length+us.length then us[j-ps.length]? else (Builtin.zeroCells z.cells (grownCap w (len+m) cap el-(len+m)))[j-(ps.length+us.length)]? := by
              rw[←hW,Array.getElem?_append,Array.getElem?_append]
              simp only[Array.size_append,List.size_toArray,Ed,List.getElem?_toArray]
              by_cases hj:j<ps.length
              ·rw[if_pos (by omega),if_pos hj,if_pos hj,List.getElem?_take,if_pos hj];simp
              ·by_cases xE:j<ps.length+us.length
               ·rw[if_pos xE,if_neg hj,if_neg hj,if_pos xE]
               ·rw[if_neg xE,if_neg hj,if_neg xE]
             rw[uJ]
             rw[List.getElem?_append] at hp
             by_cases hj:j<ps.length
             ·rw[if_pos hj] at hp ⊢
              obtain⟨u,q1,q2,q3⟩:=ot j p hp
              exact⟨u,q1,q2,uI q3⟩
             ·rw[if_neg hj] at hp ⊢
              have ME:=(List.getElem?_eq_some_iff.1 hp).1
              have H3:j-ps.length<us.length:=by rw[←q8.1];exact ME
              rw[if_pos (by omega)]
              obtain⟨q1,q2⟩:=q8.2 _ p us[j-ps.length] hp (List.getElem?_eq_getElem H3)
              exact⟨_,List.getElem?_eq_getElem H3,q2.iN q1,uI q2⟩
            refine kU mm (ob:=some w.heap.size) j0 ni nj (fun b' cI => ?_) (rH iv lT (by simp)) (.inr ⟨w.heap.size,grownCap w (len+m) cap el,rfl,rfl,rz,el,_,by unfold World.shape?;rw[iv],?_⟩)
            ·injection cI with cI;subst cI
             exact⟨by simp,fun hI=>Nat.lt_irrefl _ (hr.ib _ hI),(.inl hr.aN.size),fun x hx e=>Nat.lt_irrefl _ (hr.lb x _ (bW.1 hx).1 e)⟩
            ·rw[←hW]
             simp only[Array.size_append,List.size_toArray,yI,rr,size_zeroCells,ta,uq,jC]
             rw[←Nat.add_mul,←Nat.add_mul]
             have:len+m+(grownCap w (len+m) cap el-(len+m))=grownCap w (len+m) cap el:=by omega
             rw[this];omega
       ·cases aD
      ·cases aD
     ·cases aD
    ·cases aD
  ·cases aD
 ·cases aD
theorem A3{w:World}{I:Nat→Prop}{y:Value}{m sz:Nat}{qs:List PV}(eF:Src w I y m qs)(hl:qs.length=m*sz)(k:Nat)(hk:k≤m) :
  ∃news,bT I w (qs.take (k*sz)) news∧news.length=k*sz∧(∀(P:Program),(Builtin.firstCells sz k y).run P w = .ok news.toArray w)∧∀(P:Program),(Builtin.lenOf y).run P w = .ok m w:=by
 rcases eF with ⟨ao,c,rfl,rfl,rfl⟩|⟨b,o,c,us,rfl,h1,h2⟩
 ·have:k=0:=by omega
  subst this
  refine⟨[],⟨by simp,fun j p u h=>by simp at h⟩,by simp,fun P => ?_,fun P=>rfl⟩
  cases ao with
  |none=>rfl
  |some a=>simp[Builtin.firstCells,loadCells,loadCellsFrom]
 ·have Tx:us.length=m*sz:=by rw[←h2.1];exact hl
  have W8:k*sz≤m*sz:=Nat.mul_le_mul_right _ hk
  refine⟨us.take (k*sz),⟨by simp;omega,fun j p u hp hu => ?_⟩,by simp;omega,fun P => ?_,fun P=>rfl⟩
  ·rw[List.getElem?_take] at hp hu
   split at hp
   ·rename_i hj
    rw[if_pos hj] at hu
    exact h2.2 j p u hp hu
   ·cases hp
  ·have:=run_loadCells_list (P:=P) w ⟨b,o,none⟩ (us.take (k*sz)) (fun j v hv=>by
    rw[List.getElem?_take] at hv
    split at hv
    ·rw[Addr.add_lit];exact h1 j v hv
    ·cases hv)
   rw[List.length_take,Nat.min_eq_left (by omega)] at this
   simpa[Builtin.firstCells] using this
theorem BI{dT sT ty e:TypeId}{i:TypeInfo}(hu:P.underlying dT=some (.slice e))(hi:P.info? e=some i)(g off MG Rc:Nat){cur:Array Value}{rh:TypeId}(hg:w.heap[g]? = some (.cells cur rh (0,0))){y:Value}{m k:Nat}{qs:List PV}
  (eF:Src w I y m qs) (hl:qs.length=m*i.size) (hk:min m MG=k) (rF:off+k*i.size≤cur.size) :
  ∃news,bT I w (qs.take (k*i.size)) news∧news.length=k*i.size ∧
   (Builtin.copy_ #[dT,sT] ty #[.slice (some ⟨g,off,none⟩) MG Rc,y]).run P w = .ok (goInt k) (w.setRow g (cur.toList.take off++news++cur.toList.drop (off+news.length)).toArray):=by
 obtain⟨news,h1,h2,h3,h4⟩:=A3 eF hl k (by omega)
 refine⟨news,h1,h2,?_⟩
 have aD:=run_storeCells_at P g off rh news 0 cur w hg (by simp;omega) (fun v hv=>by
  obtain⟨j,hj⟩:=List.mem_iff_getElem?.1 hv
  have C1:j<(qs.take (k*i.size)).length:=by rw[h1.1];exact(List.getElem?_eq_some_iff.1 hj).1
  obtain⟨k1,k2⟩:=h1.2 j _ v (List.getElem?_eq_getElem C1) hj
  exact k2.iN k1)
 simp only[Nat.add_zero] at aD
 have MH:Nat.min m MG=k:=hk
 simp[Builtin.copy_,run_underlying hu,sizeOf,typeInfo,hi,h4 P,MH,h3 P,aD]
def yJ(T:ja)(n:Nat)(o:Oper)(h:Hint)(s:St):Option (St×List Prop) :=
 match o.op,h with
 |.call c,.app k out=>match c.callee,c.args.toList,c.argTypes.toList with
  |.builtin .copy,[x,y],[t1,_]=>bif gp n o.dst then
    match T.get t1 with
    |some dt=>match dt.kind with
     |.slice el=>match T.get el,cA s.env x,cA s.env y with
      |some de,some (.row r off len sz),some ey=>match s.sto.get r,C4 s.sto r ey with
       |some (.pure ps),some (m,qs,ys)=>bif Nat.beq sz de.size&&Nat.blt r 999999 then
         some (⟨jg s.env o.dst (.pv (.int .i64 (k:Int))),aG.set s.sto r (.pure out)⟩,
          [C5 m sz qs ys,min m len=k,off+k*sz≤ps.length,cF ps off (qs.take (k*sz))=out])
        else none
       |_,_=>none
      |_,_,_=>none
     |_=>none
    |none=>none
   else none
  |_,_,_=>none
 |_,_=>none
theorem yK{α β:Type}(f:α→β)(cells:List α)(off:Nat)(new:List α):(cF cells off new).map f=cF (cells.map f) off (new.map f):=by
 simp[cF,List.map_take,List.map_drop]
theorem yL(hT:lH P T)(hr:Rel Γ s a w)(aD:yJ T Γ.n o h s=some (s',ob))(bK:cW ob){K:Act→World→Prop}{Q:Exit→Act→World→Prop}
  (hk:∀a' w',Rel Γ s' a' w'→K a' w'):o.wp P a w K Q:=by
 obtain⟨β,I,hr⟩:=hr
 unfold yJ at aD
 split at aD
 ·rename_i c k out ml
  split at aD
  ·rename_i x y t1 t2 jb fZ yA
   cases hd:gp Γ.n o.dst with
   |false=>simp[hd] at aD
   |true =>
    simp only[hd,cond_true] at aD
    split at aD
    ·rename_i dt GP
     split at aD
     ·rename_i el wT
      obtain⟨un,hu,_,hf⟩:=(hT t1 dt GP).under
      rw[wT] at hf
      have hf:un = .slice el:=hf
      subst hf
      split at aD
      ·rename_i de r off len sz ey lI hx hy
       split at aD
       ·rename_i ps m qs ys jf eF
        cases hb20:(Nat.beq sz de.size&&Nat.blt r 999999) with
        |false=>simp[hb20] at aD
        |true =>
         simp only[hb20,cond_true] at aD
         rw[Bool.and_eq_true] at hb20
         have nh:=hb20.1
         have C0:r<999999:=Nat.le_of_ble_eq_true hb20.2
         have jC:sz=de.size:=Nat.eq_of_beq_eq_true nh
         injection aD with aD;injection aD with h1 h2
         subst h1;subst h2
         obtain⟨g1,bK⟩:=bK.cons
         obtain⟨g2,bK⟩:=bK.cons
         obtain⟨g3,g4⟩:=bK.cons
         have g4:cF ps off (qs.take (k*sz))=out:=g4
         obtain⟨i,hi,Qz,_,_⟩:=(hT el de lI).info
         obtain⟨cl,args,CY⟩:=c
         have jb:cl = .builtin .copy:=jb
         subst jb
         have gV:args = #[x,y]:=sS fZ
         have nO:CY = #[t1,t2]:=sS yA
         subst gV;subst nO
         have hS:Src w I (a.eval y) m qs∧qs.length=m*sz:=by
          have TB:=hr.uD y _ hy
          unfold C4 at eF
          split at eF
          ·rename_i r2 m2 C2
           cases j5:Nat.beq r2 r with
           |true=>simp[j5] at eF
           |false =>
            simp only[j5,cond_false] at eF
            split at eF
            ·rename_i UW Eh
             injection eF with eF;injection eF with e1 e2;injection e2 with e2 e3
             subst e1;subst e2;subst e3
             have g1:UW.length=m2*sz:=g1
             exact⟨FP TB ((hr.sto.1 r2 _ Eh).1) g1,g1⟩
            ·cases eF
          ·rename_i UX
           injection eF with eF;injection eF with e1 e2;injection e2 with e2 e3
           subst e1;subst e2;subst e3
           have g1:∀row∈UX,row.length=sz:=g1
           exact⟨yF TB g1,pK g1⟩
          ·cases eF
         obtain⟨sq,hv⟩:=hr.uD x _ hx
         have H4:∀v w',(Builtin.copy_ #[t1,t2] o.type #[a.eval x,a.eval y]).run P w = .ok v w'→(execOp a.eval o).run P w = .ok (.value v) w':=by
          intro v w' aw
          simp[execOp,ml,resolve,invoke,builtin,aw]
         rcases hv with ⟨Hs,tC,hv⟩|⟨b,cap,hb,hv,hc,UY,nn,q9,OV⟩
         ·
          subst tC
          have Kx:k=0:=by rw[←g2];exact Nat.min_zero m
          subst Kx
          have H0:ps=[]:=by
           rcases(hr.sto.1 r _ jf).1 with ⟨_,h2⟩|⟨b,arr,W9,hb,_⟩
           ·have h2:ps.map EV.pv=[]:=h2
            simpa using h2
           ·rw[Hs] at hb;cases hb
          subst H0
          have Re:out=[]:=by rw[←g4];simp[cF]
          subst Re
          obtain⟨news,_,n2,n3,n4⟩:=A3 hS.1 hS.2 0 (Nat.zero_le _)
          have C3:news=[]:=List.eq_nil_of_length_eq_zero (by simpa using n2)
          subst C3
          have aw:(Builtin.copy_ #[t1,t2] o.type #[a.eval x,a.eval y]).run P w = .ok (goInt 0) w:=by
           rw[hv]
           simp[Builtin.copy_,run_underlying hu,sizeOf,typeInfo,hi,Qz,←jC,n4 P,n3 P]
          unfold Oper.wp
          rw[H4 _ _ aw]
          refine hk _ _ (Rel.HY (s:=⟨jg s.env o.dst (.pv (.int .i64 (0:Nat))),s.sto⟩) ⟨fun _=>rfl,fun z => ?_⟩ ⟨β,I,hr.put (c9 hd) (Rd.int _ _)⟩)
          show(aG.set s.sto r (.pure [])).get z=s.sto.get z
          rw[aG.jD]
          split
          ·rename_i hz;rw[hz.1,jf];rfl
          ·rfl
         ·obtain⟨arr,rh,hg,Ht,lT⟩:=(hr.sto.1 r _ jf).1.block hb
          have Ht:ps.length≤arr.size:=by simpa[SC.jc] using Ht
          obtain⟨news,n1,n2,n3⟩:=BI (ty:=o.type) (sT:=t2) (I:=I) hu hi b off len cap hg hS.1 (by rw[Qz,←jC];exact hS.2) g2 (by rw[Qz,←jC];omega)
          rw[Qz,←jC] at n1 n2
          rw[hv] at H4
          unfold Oper.wp
          rw[H4 _ _ n3]
          have hlen:(arr.toList.take off++news++arr.toList.drop (off+news.length)).toArray.size=arr.size:=by simp;omega
          have hq:(qs.take (k*sz)).length=k*sz:=n1.1.trans n2
          have gY:=hr.write (sc' := .pure out) C0 jf hb hg hlen (fun j e he=>by
           have he:(out.map EV.pv)[j]? = some e:=he
           rw[←g4,List.getElem?_map,dI _ _ _ (by rw[hq];exact g3),hq] at he
           have fS:(arr.toList.take off++news++arr.toList.drop (off+news.length)).toArray[j]? = if off≤j∧j<off+k*sz then news[j-off]? else arr[j]? := by
            have:=dI arr.toList off news (by simp;omega) j
            unfold cF at this
            rw[←List.append_assoc] at this
            simp only[List.getElem?_toArray]
            rw[this,n2]
            simp
           rw[fS]
           by_cases hj:off≤j∧j<off+k*sz
           ·rw[if_pos hj] at he ⊢
            cases hp:(qs.take (k*sz))[j-off]? with
            |none=>rw[hp] at he;cases he
            |some p =>
             rw[hp] at he
             injection he with he;subst he
             have C1:j-off<news.length:=by rw[n2];omega
             obtain⟨k1,k2⟩:=n1.2 (j-off) p _ hp (List.getElem?_eq_getElem C1)
             exact⟨_,List.getElem?_eq_getElem C1,k2.iN k1,k2⟩
           ·rw[if_neg hj] at he ⊢
            exact lT j e (by rw[←he];show(ps.map EV.pv)[j]? = _;rw[List.getElem?_map]))
          exact hk _ _ ⟨β,I,gY.put (c9 hd) (Rd.int _ _)⟩
       ·cases aD
      ·cases aD
     ·cases aD
    ·cases aD
  ·cases aD
 ·cases aD
theorem MI(hr:cq Γ s a w β I){r m sz:Nat}{ey:EV}{v:Value}{qs:List PV}{ys:Option (List (List PV))}(eF:C4 s.sto r ey=some (m,qs,ys))(g2:C5 m sz qs ys)(CJ:RE β (aS s.sto) I w ey v):Src w I v m qs∧qs.length=m*sz:=by
 unfold C4 at eF
 split at eF
 ·rename_i r2 m2 C2
  cases hq:Nat.beq r2 r with
  |true=>simp[hq] at eF
  |false =>
   simp only[hq,cond_false] at eF
   split at eF
   ·rename_i Rf QA
    injection eF with eF;injection eF with e1 eF;injection eF with e2 e3
    subst e1;subst e2;subst e3
    have FQ:Rf.length=m2*sz:=g2
    exact⟨FP CJ (hr.sto.1 r2 _ QA).1 FQ,FQ⟩
   ·cases eF
 ·rename_i UZ
  injection eF with eF;injection eF with e1 eF;injection eF with e2 e3
  subst e1;subst e2;subst e3
  exact⟨yF CJ g2,pK g2⟩
 ·cases eF
def FR(T:ja)(n:Nat)(o:Oper)(h:Hint)(s:St):Option (St×List Prop):=uH C4 T n o h s
theorem AA(hT:lH P T)(hs:∀r,aS Γ.sin r→Γ.n≤r)(hr:Rel Γ s a w)(aD:FR T Γ.n o h s=some (s',ob))(bK:cW ob){K:Act→World→Prop}{Q:Exit→Act→World→Prop}
  (hk:∀a' w',Rel Γ s' a' w'→K a' w'):o.wp P a w K Q:=rI (fun hr=>MI hr) hT hs hr aD bK hk
def EO:MC:=fun sto r e =>
 match e with
 |.row r2 off m C2=>bif Nat.beq r2 r then none else match sto.get r2 with
  |some (.pure qs)=>some (m,(qs.drop off).take (m*C2),none)
  |_=>none
 |.pv (.list ys)=>some (ys.length,ys.flatten,some ys)
 |_=>none
theorem H5{r off m sz C2:Nat}{v:Value}{L:Nat→Prop}{qs:List PV}(hv:RE β L I w (.row r off m C2) v)(hb:RB β L I w r (qs.map EV.pv))(hl:((qs.drop off).take (m*C2)).length=m*sz):Src w I v m ((qs.drop off).take (m*C2)):=by
 obtain⟨_,⟨hn,rfl,rfl⟩|⟨b,c,j5,rfl,_⟩⟩:=hv
 ·exact .inl ⟨none,0,rfl,rfl,by simp⟩
 ·obtain⟨arr,el,hg,Ht,hc⟩:=hb.block j5
  refine .inr ⟨b,off,c,(arr.toList.drop off).take ((qs.drop off).take (m*C2)).length,rfl,fun j u hu => ?_,?_,fun j p u hp hu => ?_⟩
  ·rw[List.getElem?_take] at hu
   split at hu
   ·rw[List.getElem?_drop] at hu
    rw[cell_of_row w b (off+j) arr el (0,0) hg];simpa using hu
   ·cases hu
  ·have hq:qs.length≤arr.size:=by simpa using Ht
   simp only[List.length_take,List.length_drop,Array.length_toList]
   omega
  ·rw[List.getElem?_take] at hp hu
   split at hu
   ·split at hp
    ·rw[List.getElem?_drop] at hp hu
     obtain⟨u',g1,g2,g3⟩:=hc (off+j) (.pv p) (by rw[List.getElem?_map,hp];rfl)
     have:u'=u:=by simpa[g1] using hu
     subst this
     exact⟨PV.gO g3 g2,g3⟩
    ·cases hp
   ·cases hu
theorem Ky(hr:cq Γ s a w β I){r m sz:Nat}{ey:EV}{v:Value}{qs:List PV}{ys:Option (List (List PV))}(eF:EO s.sto r ey=some (m,qs,ys))(g2:C5 m sz qs ys)(CJ:RE β (aS s.sto) I w ey v):Src w I v m qs∧qs.length=m*sz:=by
 unfold EO at eF
 split at eF
 ·rename_i r2 off m2 C2
  cases hq:Nat.beq r2 r with
  |true=>simp[hq] at eF
  |false =>
   simp only[hq,cond_false] at eF
   split at eF
   ·rename_i Rf QA
    injection eF with eF;injection eF with e1 eF;injection eF with e2 e3
    subst e1;subst e2;subst e3
    have FQ:((Rf.drop off).take (m2*C2)).length=m2*sz:=g2
    exact⟨H5 CJ (hr.sto.1 r2 _ QA).1 FQ,FQ⟩
   ·cases eF
 ·rename_i UZ
  injection eF with eF;injection eF with e1 eF;injection eF with e2 e3
  subst e1;subst e2;subst e3
  exact⟨yF CJ g2,pK g2⟩
 ·cases eF
theorem Rel.cut(hr:Rel Γ s a w){r k:Nat}{ps:List PV}(jf:s.sto.get r=some (.pure ps)):Rel Γ ⟨s.env,aG.set s.sto r (.pure (ps.take k))⟩ a w:=by
 obtain⟨β,I,hr⟩:=hr
 have hL:∀x,aS s.sto x→aS (aG.set s.sto r (.pure (ps.take k))) x:=fun x hx=>dj.2 hx
 refine⟨β,I,fun t e he=>(hr.env t e he).mono (fun _ _=>rfl) hL (fun _ h=>h) (fun _ _ _=>rfl) (fun _ _ _ _=>rfl),⟨fun x sc hx => ?_,fun x y b hx hy=>hr.sto.2 x y b (dj.1 hx) (dj.1 hy)⟩,
  fun x hx=>hr.par x (dj.1 hx),fun x b hx=>hr.new x b (dj.1 hx),hr.ib,hr.ii,hr.aN,hr.size,hr.defers⟩
 have hx:(aG.set s.sto r (.pure (ps.take k))).get x=some sc:=hx
 rw[aG.jD] at hx
 by_cases xX:x=r∧r<999999
 ·obtain⟨rfl,C0⟩:=xX
  rw[if_pos ⟨rfl,C0⟩,jf] at hx
  simp only[Option.map_some,Option.some.injEq] at hx
  subst hx
  obtain⟨k1,k2⟩:=hr.sto.1 x _ jf
  refine⟨?_,k2⟩
  rcases k1 with ⟨c1,c2⟩|⟨b,arr,el,c1,c2,c3⟩
  ·have c2:ps.map EV.pv=[]:=c2
   exact .inl ⟨c1,by show(ps.take k).map EV.pv=[];rw[List.map_take,c2];simp⟩
  ·refine .inr ⟨b,arr,el,c1,c2,fun i e he => ?_⟩
   have he:((ps.take k).map EV.pv)[i]? = some e:=he
   rw[List.map_take] at he
   have cQ:=(List.getElem?_eq_some_iff.1 he).1
   rw[List.length_take] at cQ
   rw[List.getElem?_take_of_lt (by omega)] at he
   obtain⟨u,d1,d2,d3⟩:=c3 i e he
   exact⟨u,d1,d2,d3.mono (fun _ _=>rfl) hL (fun _ h=>h) (fun _ _ _=>rfl) (fun _ _ _ _=>rfl)⟩
 ·rw[if_neg xX] at hx
  obtain⟨k1,k2⟩:=hr.sto.1 x sc hx
  exact⟨k1.mono rfl (fun _ _=>rfl) (fun _ _=>rfl) hL (fun _ h=>h) (fun _ _ _=>rfl) (fun _ _ _ _=>rfl),k2⟩
end
end Go.Proofs.YtfjfekodeplcoaaGreat.Sym
