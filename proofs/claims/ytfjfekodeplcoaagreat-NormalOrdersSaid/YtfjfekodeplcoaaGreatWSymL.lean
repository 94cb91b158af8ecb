/- Lemmas for the statements of this seat. -/
import Derived.Test.YtfjfekodeplcoaaGreatWSymK
namespace Go.Proofs.YtfjfekodeplcoaaGreat.Sym
open Go Go.RowKit
section
variable {P:Program} {T:jZ} {Γ:Ctx} {s s':St} {a:Act} {w:World} {β:Nat→Option Nat} {I:Nat→Prop} {o:Oper} {h:Hint} {ob:List Prop}
theorem xJ{b sz:Nat} : ∀(ys:List (List PV)) (o:Nat) (f:Nat→Nat→Value),(∀row∈ys,row.length=sz) →
  (∀(i j:Nat) row x,ys[i]? = some row→row[j]? = some x→w.cell? ⟨b,o+(i*sz+j),none⟩=some (f i j)∧x.one=true∧Rd I w x (f i j)) →
  ∃us:List Value,(∀(j:Nat) u,us[j]? = some u→w.cell? ⟨b,o+j,none⟩=some u)∧bJ I w ys.flatten us
 |[],o,f,_,_=>⟨[],fun j u h=>by simp at h,rfl,fun j c u h=>by simp at h⟩
 |row::ys,o,f,hl,h=>by
  have pL:row.length=sz:=hl row (by simp)
  obtain⟨us,h1,h2⟩:=xJ ys (o+sz) (fun i j=>f (i+1) j) (fun r hr=>hl r (by simp[hr])) (fun i j r x hi hj=>by
   have:=h (i+1) j r x (by simpa using hi) hj
   rw[show o+sz+(i*sz+j)=o+((i+1)*sz+j) from by rw[Nat.add_mul];omega]
   exact this)
  have lZ:∀(j:Nat),((List.range sz).map (f 0)++us)[j]? = if j<sz then some (f 0 j) else us[j-sz]? := by
   intro j
   rw[List.getElem?_append]
   simp only[List.length_map,List.length_range]
   by_cases hj:j<sz
   ·rw[if_pos hj,if_pos hj,List.getElem?_map,List.getElem?_range hj];rfl
   ·rw[if_neg hj,if_neg hj]
  refine⟨(List.range sz).map (f 0)++us,fun j u hu => ?_,by simp[pL];simpa using h2.1,fun j c u hc hu => ?_⟩
  ·rw[lZ] at hu
   by_cases hj:j<sz
   ·rw[if_pos hj] at hu
    injection hu with hu;subst hu
    have hx:row[j]? = some row[j]:=List.getElem?_eq_getElem (by omega)
    have:=(h 0 j row _ rfl hx).1
    simpa using this
   ·rw[if_neg hj] at hu
    have:=h1 _ u hu
    rw[show o+sz+(j-sz)=o+j from by omega] at this
    exact this
  ·rw[lZ] at hu
   rw[List.flatten_cons,List.getElem?_append] at hc
   by_cases hj:j<sz
   ·rw[if_pos hj] at hu
    rw[if_pos (by omega)] at hc
    injection hu with hu;subst hu
    exact(h 0 j row c rfl hc).2
   ·rw[if_neg hj] at hu
    rw[if_neg (by omega),pL] at hc
    exact h2.2 _ c u hc hu
theorem pM{sz:Nat} : ∀{ys:List (List PV)},(∀row∈ys,row.length=sz)→ys.flatten.length=ys.length*sz
 |[],_=>by simp
 |row::ys,h=>by
  have:=pM (sz:=sz) (ys:=ys) (fun r hr=>h r (by simp[hr]))
  have:=h row (by simp)
  simp only[List.flatten_cons,List.length_append,List.length_cons,Nat.succ_mul]
  omega
def Src(w:World)(I:Nat→Prop)(y:Value)(m:Nat)(qs:List PV):Prop :=
 (∃ao c,y = .slice ao 0 c∧m=0∧qs=[])∨∃b o c us,y = .slice (some ⟨b,o,none⟩) m c∧(∀(j:Nat) u,us[j]? = some u→w.cell? ⟨b,o+j,none⟩=some u)∧bJ I w qs us
theorem xK{ys:List (List PV)}{v:Value}{sz:Nat}(hv:Rd I w (.list ys) v)(hs:∀row∈ys,row.length=sz):Src w I v ys.length ys.flatten:=by
 cases hv with
 |nil ao c=>exact .inl ⟨ao,c,rfl,rfl,rfl⟩
 |list _ b o c s f hc hb NO ho hh =>
  have jo:∀row∈ys,row.length=s:=fun row hr=>by
   obtain⟨i,hi⟩:=List.mem_iff_getElem?.1 hr
   exact NO i row hi
  obtain⟨us,h1,h2⟩:=xJ (w:=w) (I:=I) (b:=b) (sz:=s) ys o f jo (fun i j row x hi hj=>⟨(ho i j row x hi hj).2,(ho i j row x hi hj).1,hh i j row x hi hj⟩)
  exact .inr ⟨b,o,c,us,rfl,h1,h2⟩
theorem EU{r m sz GF:Nat}{v:Value}{L:Nat→Prop}{qs:List PV}(hv:RE β L I w (.row r 0 m GF) v)(hb:RB β L I w r (qs.map EV.pv))(hl:qs.length=m*sz):Src w I v m qs:=by
 obtain⟨_,⟨hn,rfl,rfl⟩|⟨b,c,mX,rfl,_⟩⟩:=hv
 ·exact .inl ⟨none,0,rfl,rfl,List.eq_nil_of_length_eq_zero (by simpa using hl)⟩
 ·obtain⟨arr,el,hg,KU,hc⟩:=hb.block mX
  refine .inr ⟨b,0,c,arr.toList.take qs.length,rfl,fun j u hu => ?_,by simp at KU ⊢;omega,fun j p u hp hu => ?_⟩
  ·rw[List.getElem?_take] at hu
   split at hu
   ·rw[Nat.zero_add,cell_of_row w b j arr el (0,0) hg];simpa using hu
   ·cases hu
  ·rw[List.getElem?_take] at hu
   split at hu
   ·obtain⟨u',g1,g2,g3⟩:=hc j (.pv p) (by rw[List.getElem?_map,hp];rfl)
    have:u'=u:=by simpa[g1] using hu
    subst this
    exact⟨PV.iS g3 g2,g3⟩
   ·cases hu
theorem mQ{t e:TypeId}{de:TD}(hu:P.underlying t=some (.slice e))(hd:oy P e de)(ty:TypeId)(ao bo:Option Addr)(len cap c:Nat)(hc:len≤cap) :
  (Builtin.append_ #[t,t] ty #[.slice ao len cap,.slice bo 0 c]).run P w = .ok (.slice ao len cap) w:=by
 cases ao<;>cases bo<;>simp[Builtin.append_,run_underlying hu,hd.run_sizeOf w,Builtin.lenOf,Builtin.firstCells,hc,loadCells,loadCellsFrom,storeCells]
theorem rj{β':Nat→Option Nat}{L':Nat→Prop}{d b:Nat}{ps:List PV}{arr:Array Value}{el:TypeId}(hg:w.heap[b]? = some (.cells arr el (0,0)))
  (hc:∀(j:Nat) p,ps[j]? = some p→∃u,arr[j]? = some u∧u.oneCell'=true∧Rd I w p u) (hb:β' d=some b):RB β' L' I w d (ps.map EV.pv):=by
 refine .inr ⟨b,arr,el,hb,hg,fun j e he => ?_⟩
 rw[List.getElem?_map] at he
 cases hj:ps[j]? with
 |none=>simp[hj] at he
 |some p =>
  simp[hj] at he
  subst he
  exact hc j p hj
theorem qq{r b:Nat}{L:Nat→Prop}{ps:List PV}(h:RB β L I w r (ps.map EV.pv))(hb:β r=some b) :
  ∃arr el,w.heap[b]? = some (.cells arr el (0,0))∧ps.length≤arr.size∧∀(j:Nat) p,ps[j]? = some p→∃u,arr[j]? = some u∧u.oneCell'=true∧Rd I w p u:=by
 obtain⟨arr,el,h1,h2,h3⟩:=h.block hb
 refine⟨arr,el,h1,by simpa using h2,fun j p hp=>h3 j (.pv p) (by rw[List.getElem?_map,hp];rfl)⟩
theorem ub(r:Nat)(hr:r<999999)(sc:SC):∀(s:aN),dh r (aN.DU s r sc)=dh r s
 |[]=>rfl
 |(r',c)::s=>by
  have dx:Nat.blt r 999999=true:=Nat.ble_eq_true_of_le hr
  simp only[aN.DU]
  cases hb:Nat.beq r' r with
  |true=>simp[dh,hb,dx]
  |false=>simp[dh,hb,ub r hr sc s]
theorem vS(r:Nat)(sc:SC)(s:aN):dh r (aN.set s r sc)=dh r s:=by
 unfold aN.set
 by_cases hr:r<999999
 ·rw[show Nat.blt r 999999=true from Nat.ble_eq_true_of_le hr]
  exact ub r hr sc s
 ·rw[show Nat.blt r 999999=false from Bool.eq_false_iff.2 (fun h=>hr (Nat.le_of_ble_eq_true h))]
  rfl
theorem kW(hr:cO Γ s a w β I){r d len sz:Nat}{out:List PV}{v:Value}(sC:d<Γ.n)(uc:¬bk Γ.sin d)(ud:¬bk (dh r s.sto) d){ob:Option Nat}
  (hb:∀b,ob=some b→b<w.heap.size∧¬I b∧Γ.Nw b∧∀x,bk (dh r s.sto) x→β x≠some b)
  (BX:RB (fun x=>if x=d then ob else β x) (fun x=>bk (dh r s.sto) x∨x=d) I w d (out.map EV.pv))
  (hv:(ob=none∧len=0∧v = .slice none 0 0)∨∃b c,ob=some b∧v = .slice (some ⟨b,0,none⟩) len c∧len≤c∧∃el n,w.shape? b=some (el,n)∧0+c*sz≤n) :
  Rel Γ ⟨nj (kill r s).env (some d) (.row d 0 len sz),(d,.pure out)::(kill r s).sto⟩ (a.put (some d) v) w:=by
 have h1:=hr.kill r
 have q6:d<999999:=Nat.lt_of_lt_of_le sC Γ.small
 have h2:=h1.site (d:=d) (sc := .pure out) q6 ud uc (β':=fun x=>if x=d then ob else β x) (fun x hx=>if_neg hx) (fun b cX=>hb b (by simpa using cX)) BX
 refine⟨_,_,h2.put (dst:=some d) (fun d' KT=>by injection KT with KT;rw[←KT];exact sC) ⟨(dy q6).2 (.inl rfl),?_⟩⟩
 simpa using hv
theorem tg{t e xL:TypeId}{i:TypeInfo}(ht:P.underlying t=some (.slice e))(hi:P.info? e=some i)(ty:TypeId)
  (g kK sD:Nat) (cur:Array Value) (hg:w.heap[g]? = some (.cells cur xL (0,0)))
  (ad:Addr) (m c:Nat) (news:List Value) (hl:news.length=m*i.size) (Ch:∀j u,news[j]? = some u→w.cell? (ad.add j)=some u) (h1:∀u∈news,u.oneCell'=true)
  (rl:kK+m≤sD) (wF:kK*i.size+news.length≤cur.size) :
  (Builtin.append_ #[t,t] ty #[.slice (some ⟨g,0,none⟩) kK sD,.slice (some ad) m c]).run P w =
   .ok (.slice (some ⟨g,0,none⟩) (kK+m) sD) (w.setRow g (cur.toList.take (kK*i.size)++news++cur.toList.drop (kK*i.size+news.length)).toArray):=by
 have hf:=run_firstCells_some (P:=P) w i.size m ad m c news hl Ch
 have aP:=run_storeCells_at P g (kK*i.size) xL news 0 cur w hg (by simpa using wF) h1
 simp only[Nat.add_zero] at aP
 simp[Builtin.append_,run_underlying ht,sizeOf,typeInfo,hi,Builtin.lenOf,rl,hf,Addr.add_lit,aP]
def Ci(sto:aN)(r:Nat)(e:EV):Option (Nat×List PV×Option (List (List PV))) :=
 match e with
 |.row r2 0 m _=>bif Nat.beq r2 r then none else match sto.get r2 with
  |some (.pure qs)=>some (m,qs,none)
  |_=>none
 |.pv (.list ys)=>some (ys.length,ys.flatten,some ys)
 |_=>none
def Cj(m sz:Nat)(qs:List PV):Option (List (List PV))→Prop
 |none=>qs.length=m*sz
 |some ys=>∀row∈ys,row.length=sz
abbrev LK:=aN→Nat→EV→Option (Nat×List PV×Option (List (List PV)))
def ue(src:LK)(T:jZ)(n:Nat)(o:Oper)(h:Hint)(s:St):Option (St×List Prop) :=
 match o.op,o.dst,h with
 |.call c,some d,.app sE out=>match c.callee,c.args.toList,c.argTypes.toList with
  |.builtin .append,[x,y],[t1,t2]=>bif Nat.beq t1 t2&&Nat.blt d n then
    match T.get t1 with
    |some dt=>match dt.kind with
     |.slice el=>match T.get el,c9 s.env x,c9 s.env y with
      |some de,some (.row r 0 len sz),some ey=>match s.sto.get r,src s.sto r ey,(kill r s).sto.get d with
       |some (.pure ps),some (m,qs,ys),none=>bif Nat.beq sz de.size&&Nat.ble 1 sz&&Nat.blt r n then
         some (⟨nj (kill r s).env (some d) (.row d 0 sE sz),(d,.pure out)::(kill r s).sto⟩,
          [ps.length=len*sz,Cj m sz qs ys,len+m=sE,ps++qs=out,sE*de.bytes≤140737488355328,sE<9223372036854775808])
        else none
       |_,_,_=>none
      |_,_,_=>none
     |_=>none
    |none=>none
   else none
  |_,_,_=>none
 |_,_,_=>none
theorem rm{src:LK}(HS:∀{β:Nat→Option Nat} {I:Nat→Prop},cO Γ s a w β I→∀{r m sz:Nat} {ey:EV} {v:Value} {qs:List PV} {ys:Option (List (List PV))},src s.sto r ey=some (m,qs,ys)→Cj m sz qs ys→RE β (bk s.sto) I w ey v→Src w I v m qs∧qs.length=m*sz)(hT:mN P T)(hs:∀r,bk Γ.sin r→Γ.n≤r)(hr:Rel Γ s a w)(aP:ue src T Γ.n o h s=some (s',ob))(cd:dw ob){K:Act→World→Prop}{Q:Exit→Act→World→Prop}
  (hk:∀a' w',Rel Γ s' a' w'→K a' w'):o.wp P a w K Q:=by
 obtain⟨β,I,hr⟩:=hr
 unfold ue at aP
 split at aP
 ·rename_i c d sE out rh Cg
  split at aP
  ·rename_i x y t1 t2 oz gT DQ
   cases DG:(Nat.beq t1 t2&&Nat.blt d Γ.n) with
   |false=>simp[DG] at aP
   |true =>
    simp only[DG,cond_true] at aP
    simp only[Bool.and_eq_true] at DG
    have cP:t1=t2:=Nat.eq_of_beq_eq_true DG.1
    have sC:d<Γ.n:=Nat.le_of_ble_eq_true DG.2
    subst cP
    split at aP
    ·rename_i dt NR
     split at aP
     ·rename_i el wZ
      obtain⟨un,hu,_,hf⟩:=(hT t1 dt NR).under
      rw[wZ] at hf
      have hf:un = .slice el:=hf
      subst hf
      split at aP
      ·rename_i de r len sz ey oA hx hy
       split at aP
       ·rename_i ps m qs ys mP eC sM
        cases rb:(Nat.beq sz de.size&&Nat.ble 1 sz&&Nat.blt r Γ.n) with
        |false=>simp[rb] at aP
        |true =>
         simp only[rb,cond_true] at aP
         simp only[Bool.and_eq_true] at rb
         have jo:sz=de.size:=Nat.eq_of_beq_eq_true rb.1.1
         have NS:1≤sz:=Nat.le_of_ble_eq_true rb.1.2
         have JL:r<Γ.n:=Nat.le_of_ble_eq_true rb.2
         injection aP with aP;injection aP with h1 h2
         subst h1;subst h2
         obtain⟨g1,cd⟩:=cd.cons
         obtain⟨g2,cd⟩:=cd.cons
         obtain⟨g3,cd⟩:=cd.cons
         obtain⟨g4,cd⟩:=cd.cons
         obtain⟨g5,g6⟩:=cd.cons
         have g6:sE<9223372036854775808:=g6
         subst g3;subst g4
         obtain⟨i,hi,zZ,Np,z,hz,_,xx,_⟩:=(hT el de oA).info
         have hex:=hr.BW x _ hx
         have ET:=hr.BW y _ hy
         obtain⟨u7,pL⟩:=hex
         have BX:=(hr.sto.1 r _ mP).1
         have LL:¬bk Γ.sin r:=fun h=>by have:=hs r h;omega
         have uc:¬bk Γ.sin d:=fun h=>absurd (hs d h) (Nat.not_le_of_lt sC)
         have ud:¬bk (kill r s).sto d:=by unfold bk;rw[sM];simp
         have NT:Src w I (a.eval y) m qs∧qs.length=m*sz:=HS hr eC g2 ET
         obtain⟨Hd,z8⟩:=NT
         have GG:∀v' w',(Builtin.append_ #[t1,t1] o.type #[a.eval x,a.eval y]).run P w = .ok v' w'→Rel Γ ⟨nj (kill r s).env (some d) (.row d 0 (len+m) sz),(d,.pure (ps++qs))::(kill r s).sto⟩ (a.put (some d) v') w'→o.wp P a w K Q:=by
          intro v' w' ax jL
          have lY:=wI gT
          have tY:=wI DQ
          obtain⟨cl,args,GC⟩:=c
          simp only at oz lY tY
          subst oz;subst lY;subst tY
          unfold Oper.wp execOp
          simp only[rh,resolve,invoke,builtin,Sem.run_bind,Sem.run_pure,Result.andThen_ok,List.map_toArray,List.map_cons,List.map_nil,ax]
          show K (a.put o.dst v') w'
          rw[Cg]
          exact hk _ _ jL
         have th:(len+m)*i.bytes≤140737488355328:=by rw[Np];exact g5
         have P5:len+m≤maxLen:=by unfold maxLen;omega
         have Nq:∀b,β r=some b→∀x,bk (dh r s.sto) x→β x≠some b:=fun b hb x hx e =>
          (ew.1 hx).2 (hr.sto.2 x r b (ew.1 hx).1 u7 e hb)
         rcases pL with ⟨Jf,Ca,zm⟩|⟨b,cap,mX,zm,JF,Tl,nx,xF,wF⟩
         ·
          subst Ca
          have He:ps=[]:=List.eq_nil_of_length_eq_zero (by simpa using g1)
          subst He
          rcases Hd with ⟨ao,c2,u4,rfl,rfl⟩|⟨b2,o2,c2,us,u4,zv,tc⟩
          ·refine GG _ _ (by rw[zm,u4];exact mQ hu (hT el de oA) _ none ao 0 0 c2 (Nat.le_refl _)) ?_
           exact kW hr (ob:=none) sC uc ud (fun b hb=>by cases hb) (.inl ⟨by simp,rfl⟩) (.inl ⟨rfl,rfl,rfl⟩)
          ·have u5:us.length=m*i.size:=by rw[←tc.1,zZ,←jo];exact z8
           have JM:∀(j:Nat) u,us[j]? = some u→w.cell? ((⟨b2,o2,none⟩:Addr).add j)=some u:=fun j u DF=>by rw[gk];exact zv j u DF
           rcases Nat.eq_zero_or_pos m with Ds|Ds
           ·subst Ds
            have Jg:qs=[]:=List.eq_nil_of_length_eq_zero (by simpa using z8)
            subst Jg
            refine GG _ _ (by rw[zm,u4];exact mQ hu (hT el de oA) _ none _ 0 0 c2 (Nat.le_refl _)) ?_
            exact kW hr (ob:=none) sC uc ud (fun b hb=>by cases hb) (.inl ⟨by simp,rfl⟩) (.inl ⟨rfl,rfl,rfl⟩)
           ·have ax:=run_append_nil (P:=P) w t1 o.type el i z hu hi hz ⟨b2,o2,none⟩ m c2 us u5 JM Ds (by omega) (by simp only[Nat.zero_add] at th;omega)
            refine GG _ _ (by rw[zm,u4];exact ax) ?_
            have uf:cO Γ s a (w.drew.alloc (.cells (us.toArray++Builtin.zeroCells z.cells (grownCap w m 0 el-m)) el)) β I :=
             hr.grow (((wx.refl _ _).drew).alloc (Nat.le_refl _) _) (fun b h=>h) (fun b h => .inl h)
            have pF:(w.drew.alloc (.cells (us.toArray++Builtin.zeroCells z.cells (grownCap w m 0 el-m)) el)).heap[w.heap.size]? = some (.cells (us.toArray++Builtin.zeroCells z.cells (grownCap w m 0 el-m)) el (0,0)):=heap_alloc_new w.drew _
            have vb:=grownCap_ge w m 0 el
            have nS:∀(j:Nat) p,(([]:List PV)++qs)[j]? = some p→∃u,(us.toArray++Builtin.zeroCells z.cells (grownCap w m 0 el-m))[j]? = some u∧u.oneCell'=true∧Rd I (w.drew.alloc (.cells (us.toArray++Builtin.zeroCells z.cells (grownCap w m 0 el-m)) el)) p u:=by
             intro j p hp
             simp only[List.nil_append] at hp
             have hj:j<us.length:=by rw[←tc.1];exact(List.getElem?_eq_some_iff.1 hp).1
             obtain⟨q1,q2⟩:=tc.2 j p us[j] hp (List.getElem?_eq_getElem hj)
             refine⟨us[j],by rw[Array.getElem?_append_left (by simpa using hj)];simp[hj],q2.iD q1,q2.mono (fun _ h=>h) (fun b o hI=>eX (Below.heap_alloc w.drew _ b (hr.ib b hI)) o)⟩
            refine kW uf (ob:=some w.heap.size) sC uc ud (fun b hb => ?_) (rj pF nS (by simp)) (.inr ⟨w.heap.size,grownCap w m 0 el,rfl,by simp,by simpa using vb,el,_,by unfold World.shape?;rw[pF],?_⟩)
            ·injection hb with hb;subst hb
             exact⟨by simp,fun hI=>Nat.lt_irrefl _ (hr.ib _ hI),(.inl hr.aH.size),fun x hx e=>Nat.lt_irrefl _ (hr.lb x _ (ew.1 hx).1 e)⟩
            ·simp only[Array.size_append,List.size_toArray,u5,size_zeroCells,xx,zZ,jo]
             rw[←Nat.add_mul]
             have:m+(grownCap w m 0 el-m)=grownCap w m 0 el:=by omega
             rw[this];omega
         ·
          have DX:Γ.Nw b:=hr.new r b u7 (.inl LL) mX
          have FX:=((hr.sto.1 r _ mP).2 b mX)
          obtain⟨arr,xL,hg,Jy,tQ⟩:=qq BX mX
          have JN:w.shape? b=some (xL,arr.size):=by unfold World.shape?;rw[hg]
          have AN:nx=arr.size:=by
           rw[JN] at xF;injection xF with xF;injection xF with h1 h2;exact h2.symm
          subst AN
          rcases Nat.eq_zero_or_pos m with Ds|Ds
          ·have u4:∃bo c2,a.eval y = .slice bo 0 c2:=by
            rcases Hd with ⟨ao,c2,u4,_⟩|⟨b2,o2,c2,us,u4,_⟩
            ·exact⟨_,_,u4⟩
            ·exact⟨_,_,by rw[u4,Ds]⟩
           obtain⟨bo,c2,u4⟩:=u4
           subst Ds
           have Jg:qs=[]:=List.eq_nil_of_length_eq_zero (by simpa using z8)
           subst Jg
           refine GG _ _ (by rw[zm,u4];exact mQ hu (hT el de oA) _ _ _ len cap c2 JF) ?_
           exact kW hr (ob:=some b) sC uc ud (fun b' cX=>by injection cX with cX;subst cX;exact⟨FX.1,FX.2,DX,Nq b mX⟩)
            (rj hg (fun j p hp=>tQ j p (by simpa using hp)) (by simp)) (.inr ⟨b,cap,rfl,rfl,JF,xL,_,JN,wF⟩)
          ·rcases Hd with ⟨_,_,_,hm,_⟩|⟨b2,o2,c2,us,u4,zv,tc⟩
           ·omega
           have u5:us.length=m*i.size:=by rw[←tc.1,zZ,←jo];exact z8
           have JM:∀(j:Nat) u,us[j]? = some u→w.cell? ((⟨b2,o2,none⟩:Addr).add j)=some u:=fun j u DF=>by rw[gk];exact zv j u DF
           have LM:∀u∈us,u.oneCell'=true:=fun u DF=>by
            obtain⟨j,hj⟩:=List.mem_iff_getElem?.1 DF
            have DW:j<qs.length:=by rw[tc.1];exact(List.getElem?_eq_some_iff.1 hj).1
            obtain⟨q1,q2⟩:=tc.2 j _ u (List.getElem?_eq_getElem DW) hj
            exact q2.iD q1
           have LN:len*i.size=ps.length:=by rw[zZ,←jo];exact g1.symm
           have P6:cap*sz≤arr.size:=by omega
           by_cases rl:len+m≤cap
           ·have Hf:len*i.size+us.length≤arr.size:=by
             have h3:(len+m)*sz≤cap*sz:=Nat.mul_le_mul_right _ rl
             rw[Nat.add_mul] at h3
             rw[u5,zZ,←jo];omega
            have ax:=tg (P:=P) hu hi o.type b len cap arr hg ⟨b2,o2,none⟩ m c2 us u5 JM LM rl Hf
            refine GG _ _ (by rw[zm,u4];exact ax) ?_
            have Hg:(arr.toList.take (len*i.size)++us++arr.toList.drop (len*i.size+us.length)).toArray.size=arr.size:=by
             simp;omega
            have lZ:∀j,(arr.toList.take (len*i.size)++us++arr.toList.drop (len*i.size+us.length)).toArray[j]? = if len*i.size≤j∧j<len*i.size+us.length then us[j-len*i.size]? else arr[j]? := by
             intro j
             have:=fI arr.toList (len*i.size) us (by simp;omega) j
             unfold cZ at this
             rw[←List.append_assoc] at this
             simp only[List.getElem?_toArray]
             rw[this]
             simp only[Array.getElem?_toList]
            have Ck:∀(j:Nat) p,(ps++qs)[j]? = some p→∃u,(arr.toList.take (len*i.size)++us++arr.toList.drop (len*i.size+us.length)).toArray[j]? = some u∧u.oneCell'=true∧Rd I w p u:=by
             intro j p hp
             rw[lZ j]
             rw[List.getElem?_append] at hp
             by_cases hj:j<ps.length
             ·rw[if_pos hj] at hp
              rw[if_neg (by omega)]
              exact tQ j p hp
             ·rw[if_neg hj] at hp
              have LO:=(List.getElem?_eq_some_iff.1 hp).1
              have Hh:j-ps.length<us.length:=by rw[←tc.1];exact LO
              rw[if_pos (by omega),LN]
              obtain⟨q1,q2⟩:=tc.2 _ p us[j-ps.length] hp (List.getElem?_eq_getElem Hh)
              exact⟨_,List.getElem?_eq_getElem Hh,q2.iD q1,q2⟩
            have P7:=hr.write (sc' := .pure (ps++qs)) (Nat.lt_of_lt_of_le JL Γ.small) mP mX hg Hg (fun j e' gr=>by
             simp only[SC.pE,List.getElem?_map] at gr
             cases hp:(ps++qs)[j]? with
             |none=>simp[hp] at gr
             |some p =>
              simp[hp] at gr
              subst gr
              exact Ck j p hp)
            have DY:dh r (aN.set s.sto r (.pure (ps++qs)))=dh r s.sto:=vS r _ s.sto
            have LP:kill r ⟨s.env,aN.set s.sto r (.pure (ps++qs))⟩=kill r s:=by unfold kill;simp only[DY]
            have Hi:=kW P7 (r:=r) (d:=d) (len:=len+m) (sz:=sz) (out:=ps++qs) (v := .slice (some ⟨b,0,none⟩) (len+m) cap) (ob:=some b) sC uc (by rw[DY];exact ud)
             (fun b' cX=>by
              injection cX with cX;subst cX
              rw[DY]
              exact⟨by simpa[World.setRow] using FX.1,FX.2,DX,Nq b mX⟩)
             (rj (setRow_heap w b arr _ xL (0,0) hg) (fun j p hp=>by
              obtain⟨u,q1,q2,q3⟩:=Ck j p hp
              exact⟨u,q1,q2,q3.mono (fun _ h=>h) (fun b' o' hI=>eX (setRow_other w b b' _ (fun e=>FX.2 (e ▸ hI))) o')⟩) (by simp))
             (.inr ⟨b,cap,rfl,rfl,rl,xL,arr.size,by rw[qp w b b _ arr xL (0,0) hg Hg];exact JN,wF⟩)
            rw[LP] at Hi
            exact Hi
           ·have Hj:(arr.toList.take ps.length).length=len*i.size:=by simp;omega
            have holds:∀(j:Nat) v,(arr.toList.take ps.length)[j]? = some v→w.cell? ((⟨b,0,none⟩:Addr).add j)=some v:=by
             intro j v hv
             rw[gk,Nat.zero_add,cell_of_row w b j arr xL (0,0) hg]
             rw[List.getElem?_take] at hv
             split at hv
             ·simpa using hv
             ·cases hv
            have ax:=run_append_grow (P:=P) w t1 o.type el i z hu hi hz ⟨b,0,none⟩ len cap (arr.toList.take ps.length) Hj holds ⟨b2,o2,none⟩ m c2 us u5 JM (by omega) (by omega) (growslice_fits (by omega) th)
            refine GG _ _ (by rw[zm,u4];exact ax) ?_
            generalize hW:((arr.toList.take ps.length).toArray++us.toArray++Builtin.zeroCells z.cells (grownCap w (len+m) cap el-(len+m)):Array Value)=narr
            have uf:cO Γ s a (w.drew.alloc (.cells narr el)) β I :=
             hr.grow (((wx.refl _ _).drew).alloc (Nat.le_refl _) _) (fun b h=>h) (fun b h => .inl h)
            have pF:(w.drew.alloc (.cells narr el)).heap[w.heap.size]? = some (.cells narr el (0,0)):=heap_alloc_new w.drew _
            have vb:=grownCap_ge w (len+m) cap el
            have ug:∀{p:PV} {u:Value},Rd I w p u→Rd I (w.drew.alloc (.cells narr el)) p u:=fun h=>h.mono (fun _ h=>h) (fun b o hI=>eX (Below.heap_alloc w.drew _ b (hr.ib b hI)) o)
            have nS:∀(j:Nat) p,(ps++qs)[j]? = some p→∃u,narr[j]? = some u∧u.oneCell'=true∧Rd I (w.drew.alloc (.cells narr el)) p u:=by
             intro j p hp
             have G2:(arr.toList.take ps.length).length=ps.length:=by simp;omega
             have Hk:narr[j]? = if j<ps.length then arr[j]? else if j<ps.length+us.length then us[j-ps.length]? else (Builtin.zeroCells z.cells (grownCap w (len+m) cap el-(len+m)))[j-(ps.length+us.length)]? := by
              rw[←hW,Array.getElem?_append,Array.getElem?_append]
              simp only[Array.size_append,List.size_toArray,G2,List.getElem?_toArray]
              by_cases hj:j<ps.length
              ·rw[if_pos (by omega),if_pos hj,if_pos hj,List.getElem?_take,if_pos hj];simp
              ·by_cases DZ:j<ps.length+us.length
               ·rw[if_pos DZ,if_neg hj,if_neg hj,if_pos DZ]
               ·rw[if_neg DZ,if_neg hj,if_neg DZ]
             rw[Hk]
             rw[List.getElem?_append] at hp
             by_cases hj:j<ps.length
             ·rw[if_pos hj] at hp ⊢
              obtain⟨u,q1,q2,q3⟩:=tQ j p hp
              exact⟨u,q1,q2,ug q3⟩
             ·rw[if_neg hj] at hp ⊢
              have LO:=(List.getElem?_eq_some_iff.1 hp).1
              have Hh:j-ps.length<us.length:=by rw[←tc.1];exact LO
              rw[if_pos (by omega)]
              obtain⟨q1,q2⟩:=tc.2 _ p us[j-ps.length] hp (List.getElem?_eq_getElem Hh)
              exact⟨_,List.getElem?_eq_getElem Hh,q2.iD q1,ug q2⟩
            refine kW uf (ob:=some w.heap.size) sC uc ud (fun b' cX => ?_) (rj pF nS (by simp)) (.inr ⟨w.heap.size,grownCap w (len+m) cap el,rfl,rfl,vb,el,_,by unfold World.shape?;rw[pF],?_⟩)
            ·injection cX with cX;subst cX
             exact⟨by simp,fun hI=>Nat.lt_irrefl _ (hr.ib _ hI),(.inl hr.aH.size),fun x hx e=>Nat.lt_irrefl _ (hr.lb x _ (ew.1 hx).1 e)⟩
            ·rw[←hW]
             simp only[Array.size_append,List.size_toArray,Hj,u5,size_zeroCells,xx,zZ,jo]
             rw[←Nat.add_mul,←Nat.add_mul]
             have:len+m+(grownCap w (len+m) cap el-(len+m))=grownCap w (len+m) cap el:=by omega
             rw[this];omega
       ·cases aP
      ·cases aP
     ·cases aP
    ·cases aP
  ·cases aP
 ·cases aP
theorem Aa{w:World}{I:Nat→Prop}{y:Value}{m sz:Nat}{qs:List PV}(eC:Src w I y m qs)(hl:qs.length=m*sz)(k:Nat)(hk:k≤m) :
  ∃news,bJ I w (qs.take (k*sz)) news∧news.length=k*sz∧(∀(P:Program),(Builtin.firstCells sz k y).run P w = .ok news.toArray w)∧∀(P:Program),(Builtin.lenOf y).run P w = .ok m w:=by
 rcases eC with ⟨ao,c,rfl,rfl,rfl⟩|⟨b,o,c,us,rfl,h1,h2⟩
 ·have:k=0:=by omega
  subst this
  refine⟨[],⟨by simp,fun j p u h=>by simp at h⟩,by simp,fun P => ?_,fun P=>rfl⟩
  cases ao with
  |none=>rfl
  |some a=>simp[Builtin.firstCells,loadCells,loadCellsFrom]
 ·have Sb:us.length=m*sz:=by rw[←h2.1];exact hl
  have Vr:k*sz≤m*sz:=Nat.mul_le_mul_right _ hk
  refine⟨us.take (k*sz),⟨by simp;omega,fun j p u hp hu => ?_⟩,by simp;omega,fun P => ?_,fun P=>rfl⟩
  ·rw[List.getElem?_take] at hp hu
   split at hp
   ·rename_i hj
    rw[if_pos hj] at hu
    exact h2.2 j p u hp hu
   ·cases hp
  ·have:=run_loadCells_list (P:=P) w ⟨b,o,none⟩ (us.take (k*sz)) (fun j v hv=>by
    rw[List.getElem?_take] at hv
    split at hv
    ·rw[Addr.add_lit];exact h1 j v hv
    ·cases hv)
   rw[List.length_take,Nat.min_eq_left (by omega)] at this
   simpa[Builtin.firstCells] using this
theorem AQ{dT sT ty e:TypeId}{i:TypeInfo}(hu:P.underlying dT=some (.slice e))(hi:P.info? e=some i)(g off LQ P8:Nat){cur:Array Value}{xL:TypeId}(hg:w.heap[g]? = some (.cells cur xL (0,0))){y:Value}{m k:Nat}{qs:List PV}
  (eC:Src w I y m qs) (hl:qs.length=m*i.size) (hk:min m LQ=k) (wF:off+k*i.size≤cur.size) :
  ∃news,bJ I w (qs.take (k*i.size)) news∧news.length=k*i.size ∧
   (Builtin.copy_ #[dT,sT] ty #[.slice (some ⟨g,off,none⟩) LQ P8,y]).run P w = .ok (goInt k) (w.setRow g (cur.toList.take off++news++cur.toList.drop (off+news.length)).toArray):=by
 obtain⟨news,h1,h2,h3,h4⟩:=Aa eC hl k (by omega)
 refine⟨news,h1,h2,?_⟩
 have aP:=run_storeCells_at P g off xL news 0 cur w hg (by simp;omega) (fun v hv=>by
  obtain⟨j,hj⟩:=List.mem_iff_getElem?.1 hv
  have DW:j<(qs.take (k*i.size)).length:=by rw[h1.1];exact(List.getElem?_eq_some_iff.1 hj).1
  obtain⟨k1,k2⟩:=h1.2 j _ v (List.getElem?_eq_getElem DW) hj
  exact k2.iD k1)
 simp only[Nat.add_zero] at aP
 have LR:Nat.min m LQ=k:=hk
 simp[Builtin.copy_,run_underlying hu,sizeOf,typeInfo,hi,h4 P,LR,h3 P,aP]
def xM(T:jZ)(n:Nat)(o:Oper)(h:Hint)(s:St):Option (St×List Prop) :=
 match o.op,h with
 |.call c,.app k out=>match c.callee,c.args.toList,c.argTypes.toList with
  |.builtin .copy,[x,y],[t1,_]=>bif jH n o.dst then
    match T.get t1 with
    |some dt=>match dt.kind with
     |.slice el=>match T.get el,c9 s.env x,c9 s.env y with
      |some de,some (.row r off len sz),some ey=>match s.sto.get r,Ci s.sto r ey with
       |some (.pure ps),some (m,qs,ys)=>bif Nat.beq sz de.size&&Nat.blt r 999999 then
         some (⟨nj s.env o.dst (.pv (.int .i64 (k:Int))),aN.set s.sto r (.pure out)⟩,
          [Cj m sz qs ys,min m len=k,off+k*sz≤ps.length,cZ ps off (qs.take (k*sz))=out])
        else none
       |_,_=>none
      |_,_,_=>none
     |_=>none
    |none=>none
   else none
  |_,_,_=>none
 |_,_=>none
theorem D0{α β:Type}(f:α→β)(cells:List α)(off:Nat)(new:List α):(cZ cells off new).map f=cZ (cells.map f) off (new.map f):=by
 simp[cZ,List.map_take,List.map_drop]
theorem xN(hT:mN P T)(hr:Rel Γ s a w)(aP:xM T Γ.n o h s=some (s',ob))(cd:dw ob){K:Act→World→Prop}{Q:Exit→Act→World→Prop}
  (hk:∀a' w',Rel Γ s' a' w'→K a' w'):o.wp P a w K Q:=by
 obtain⟨β,I,hr⟩:=hr
 unfold xM at aP
 split at aP
 ·rename_i c k out rh
  split at aP
  ·rename_i x y t1 t2 oz gT DQ
   cases hd:jH Γ.n o.dst with
   |false=>simp[hd] at aP
   |true =>
    simp only[hd,cond_true] at aP
    split at aP
    ·rename_i dt NR
     split at aP
     ·rename_i el wZ
      obtain⟨un,hu,_,hf⟩:=(hT t1 dt NR).under
      rw[wZ] at hf
      have hf:un = .slice el:=hf
      subst hf
      split at aP
      ·rename_i de r off len sz ey oA hx hy
       split at aP
       ·rename_i ps m qs ys mP eC
        cases hb20:(Nat.beq sz de.size&&Nat.blt r 999999) with
        |false=>simp[hb20] at aP
        |true =>
         simp only[hb20,cond_true] at aP
         rw[Bool.and_eq_true] at hb20
         have rb:=hb20.1
         have Hc:r<999999:=Nat.le_of_ble_eq_true hb20.2
         have jo:sz=de.size:=Nat.eq_of_beq_eq_true rb
         injection aP with aP;injection aP with h1 h2
         subst h1;subst h2
         obtain⟨g1,cd⟩:=cd.cons
         obtain⟨g2,cd⟩:=cd.cons
         obtain⟨g3,g4⟩:=cd.cons
         have g4:cZ ps off (qs.take (k*sz))=out:=g4
         obtain⟨i,hi,Pg,_,_⟩:=(hT el de oA).info
         obtain⟨cl,args,GC⟩:=c
         have oz:cl = .builtin .copy:=oz
         subst oz
         have lY:args = #[x,y]:=wI gT
         have tY:GC = #[t1,t2]:=wI DQ
         subst lY;subst tY
         have hS:Src w I (a.eval y) m qs∧qs.length=m*sz:=by
          have Sf:=hr.BW y _ hy
          unfold Ci at eC
          split at eC
          ·rename_i r2 m2 GF
           cases mX:Nat.beq r2 r with
           |true=>simp[mX] at eC
           |false =>
            simp only[mX,cond_false] at eC
            split at eC
            ·rename_i Tm Dt
             injection eC with eC;injection eC with e1 e2;injection e2 with e2 e3
             subst e1;subst e2;subst e3
             have g1:Tm.length=m2*sz:=g1
             exact⟨EU Sf ((hr.sto.1 r2 _ Dt).1) g1,g1⟩
            ·cases eC
          ·rename_i Tn
           injection eC with eC;injection eC with e1 e2;injection e2 with e2 e3
           subst e1;subst e2;subst e3
           have g1:∀row∈Tn,row.length=sz:=g1
           exact⟨xK Sf g1,pM g1⟩
          ·cases eC
         obtain⟨u7,hv⟩:=hr.BW x _ hx
         have Hl:∀v w',(Builtin.copy_ #[t1,t2] o.type #[a.eval x,a.eval y]).run P w = .ok v w'→(execOp a.eval o).run P w = .ok (.value v) w':=by
          intro v w' ax
          simp[execOp,rh,resolve,invoke,builtin,ax]
         rcases hv with ⟨Jf,Ca,hv⟩|⟨b,cap,hb,hv,hc,To,nn,xF,NP⟩
         ·
          subst Ca
          have JO:k=0:=by rw[←g2];exact Nat.min_zero m
          subst JO
          have He:ps=[]:=by
           rcases(hr.sto.1 r _ mP).1 with ⟨_,h2⟩|⟨b,arr,Vs,hb,_⟩
           ·have h2:ps.map EV.pv=[]:=h2
            simpa using h2
           ·rw[Jf] at hb;cases hb
          subst He
          have P9:out=[]:=by rw[←g4];simp[cZ]
          subst P9
          obtain⟨news,_,n2,n3,n4⟩:=Aa hS.1 hS.2 0 (Nat.zero_le _)
          have Ch:news=[]:=List.eq_nil_of_length_eq_zero (by simpa using n2)
          subst Ch
          have ax:(Builtin.copy_ #[t1,t2] o.type #[a.eval x,a.eval y]).run P w = .ok (goInt 0) w:=by
           rw[hv]
           simp[Builtin.copy_,run_underlying hu,sizeOf,typeInfo,hi,Pg,←jo,n4 P,n3 P]
          unfold Oper.wp
          rw[Hl _ _ ax]
          refine hk _ _ (Rel.JK (s:=⟨nj s.env o.dst (.pv (.int .i64 (0:Nat))),s.sto⟩) ⟨fun _=>rfl,fun z => ?_⟩ ⟨β,I,hr.put (eb hd) (Rd.int _ _)⟩)
          show(aN.set s.sto r (.pure [])).get z=s.sto.get z
          rw[aN.kV]
          split
          ·rename_i hz;rw[hz.1,mP];rfl
          ·rfl
         ·obtain⟨arr,xL,hg,KU,nS⟩:=(hr.sto.1 r _ mP).1.block hb
          have KU:ps.length≤arr.size:=by simpa[SC.pE] using KU
          obtain⟨news,n1,n2,n3⟩:=AQ (ty:=o.type) (sT:=t2) (I:=I) hu hi b off len cap hg hS.1 (by rw[Pg,←jo];exact hS.2) g2 (by rw[Pg,←jo];omega)
          rw[Pg,←jo] at n1 n2
          rw[hv] at Hl
          unfold Oper.wp
          rw[Hl _ _ n3]
          have hlen:(arr.toList.take off++news++arr.toList.drop (off+news.length)).toArray.size=arr.size:=by simp;omega
          have hq:(qs.take (k*sz)).length=k*sz:=n1.1.trans n2
          have jL:=hr.write (sc' := .pure out) Hc mP hb hg hlen (fun j e he=>by
           have he:(out.map EV.pv)[j]? = some e:=he
           rw[←g4,List.getElem?_map,fI _ _ _ (by rw[hq];exact g3),hq] at he
           have lZ:(arr.toList.take off++news++arr.toList.drop (off+news.length)).toArray[j]? = if off≤j∧j<off+k*sz then news[j-off]? else arr[j]? := by
            have:=fI arr.toList off news (by simp;omega) j
            unfold cZ at this
            rw[←List.append_assoc] at this
            simp only[List.getElem?_toArray]
            rw[this,n2]
            simp
           rw[lZ]
           by_cases hj:off≤j∧j<off+k*sz
           ·rw[if_pos hj] at he ⊢
            cases hp:(qs.take (k*sz))[j-off]? with
            |none=>rw[hp] at he;cases he
            |some p =>
             rw[hp] at he
             injection he with he;subst he
             have DW:j-off<news.length:=by rw[n2];omega
             obtain⟨k1,k2⟩:=n1.2 (j-off) p _ hp (List.getElem?_eq_getElem DW)
             exact⟨_,List.getElem?_eq_getElem DW,k2.iD k1,k2⟩
           ·rw[if_neg hj] at he ⊢
            exact nS j e (by rw[←he];show(ps.map EV.pv)[j]? = _;rw[List.getElem?_map]))
          exact hk _ _ ⟨β,I,jL.put (eb hd) (Rd.int _ _)⟩
       ·cases aP
      ·cases aP
     ·cases aP
    ·cases aP
  ·cases aP
 ·cases aP
theorem LS(hr:cO Γ s a w β I){r m sz:Nat}{ey:EV}{v:Value}{qs:List PV}{ys:Option (List (List PV))}(eC:Ci s.sto r ey=some (m,qs,ys))(g2:Cj m sz qs ys)(ET:RE β (bk s.sto) I w ey v):Src w I v m qs∧qs.length=m*sz:=by
 unfold Ci at eC
 split at eC
 ·rename_i r2 m2 GF
  cases hq:Nat.beq r2 r with
  |true=>simp[hq] at eC
  |false =>
   simp only[hq,cond_false] at eC
   split at eC
   ·rename_i Qa Ph
    injection eC with eC;injection eC with e1 eC;injection eC with e2 e3
    subst e1;subst e2;subst e3
    have GH:Qa.length=m2*sz:=g2
    exact⟨EU ET (hr.sto.1 r2 _ Ph).1 GH,GH⟩
   ·cases eC
 ·rename_i Tp
  injection eC with eC;injection eC with e1 eC;injection eC with e2 e3
  subst e1;subst e2;subst e3
  exact⟨xK ET g2,pM g2⟩
 ·cases eC
def EW(T:jZ)(n:Nat)(o:Oper)(h:Hint)(s:St):Option (St×List Prop):=ue Ci T n o h s
theorem zA(hT:mN P T)(hs:∀r,bk Γ.sin r→Γ.n≤r)(hr:Rel Γ s a w)(aP:EW T Γ.n o h s=some (s',ob))(cd:dw ob){K:Act→World→Prop}{Q:Exit→Act→World→Prop}
  (hk:∀a' w',Rel Γ s' a' w'→K a' w'):o.wp P a w K Q:=rm (fun hr=>LS hr) hT hs hr aP cd hk
def D1:LK:=fun sto r e =>
 match e with
 |.row r2 off m GF=>bif Nat.beq r2 r then none else match sto.get r2 with
  |some (.pure qs)=>some (m,(qs.drop off).take (m*GF),none)
  |_=>none
 |.pv (.list ys)=>some (ys.length,ys.flatten,some ys)
 |_=>none
theorem Hm{r off m sz GF:Nat}{v:Value}{L:Nat→Prop}{qs:List PV}(hv:RE β L I w (.row r off m GF) v)(hb:RB β L I w r (qs.map EV.pv))(hl:((qs.drop off).take (m*GF)).length=m*sz):Src w I v m ((qs.drop off).take (m*GF)):=by
 obtain⟨_,⟨hn,rfl,rfl⟩|⟨b,c,mX,rfl,_⟩⟩:=hv
 ·exact .inl ⟨none,0,rfl,rfl,by simp⟩
 ·obtain⟨arr,el,hg,KU,hc⟩:=hb.block mX
  refine .inr ⟨b,off,c,(arr.toList.drop off).take ((qs.drop off).take (m*GF)).length,rfl,fun j u hu => ?_,?_,fun j p u hp hu => ?_⟩
  ·rw[List.getElem?_take] at hu
   split at hu
   ·rw[List.getElem?_drop] at hu
    rw[cell_of_row w b (off+j) arr el (0,0) hg];simpa using hu
   ·cases hu
  ·have hq:qs.length≤arr.size:=by simpa using KU
   simp only[List.length_take,List.length_drop,Array.length_toList]
   omega
  ·rw[List.getElem?_take] at hp hu
   split at hu
   ·split at hp
    ·rw[List.getElem?_drop] at hp hu
     obtain⟨u',g1,g2,g3⟩:=hc (off+j) (.pv p) (by rw[List.getElem?_map,hp];rfl)
     have:u'=u:=by simpa[g1] using hu
     subst this
     exact⟨PV.iS g3 g2,g3⟩
    ·cases hp
   ·cases hu
theorem JP(hr:cO Γ s a w β I){r m sz:Nat}{ey:EV}{v:Value}{qs:List PV}{ys:Option (List (List PV))}(eC:D1 s.sto r ey=some (m,qs,ys))(g2:Cj m sz qs ys)(ET:RE β (bk s.sto) I w ey v):Src w I v m qs∧qs.length=m*sz:=by
 unfold D1 at eC
 split at eC
 ·rename_i r2 off m2 GF
  cases hq:Nat.beq r2 r with
  |true=>simp[hq] at eC
  |false =>
   simp only[hq,cond_false] at eC
   split at eC
   ·rename_i Qa Ph
    injection eC with eC;injection eC with e1 eC;injection eC with e2 e3
    subst e1;subst e2;subst e3
    have GH:((Qa.drop off).take (m2*GF)).length=m2*sz:=g2
    exact⟨Hm ET (hr.sto.1 r2 _ Ph).1 GH,GH⟩
   ·cases eC
 ·rename_i Tp
  injection eC with eC;injection eC with e1 eC;injection eC with e2 e3
  subst e1;subst e2;subst e3
  exact⟨xK ET g2,pM g2⟩
 ·cases eC
theorem Rel.cut(hr:Rel Γ s a w){r k:Nat}{ps:List PV}(mP:s.sto.get r=some (.pure ps)):Rel Γ ⟨s.env,aN.set s.sto r (.pure (ps.take k))⟩ a w:=by
 obtain⟨β,I,hr⟩:=hr
 have hL:∀x,bk s.sto x→bk (aN.set s.sto r (.pure (ps.take k))) x:=fun x hx=>gm.2 hx
 refine⟨β,I,fun t e he=>(hr.env t e he).mono (fun _ _=>rfl) hL (fun _ h=>h) (fun _ _ _=>rfl) (fun _ _ _ _=>rfl),⟨fun x sc hx => ?_,fun x y b hx hy=>hr.sto.2 x y b (gm.1 hx) (gm.1 hy)⟩,
  fun x hx=>hr.par x (gm.1 hx),fun x b hx=>hr.new x b (gm.1 hx),hr.ib,hr.ii,hr.aH,hr.size,hr.defers⟩
 have hx:(aN.set s.sto r (.pure (ps.take k))).get x=some sc:=hx
 rw[aN.kV] at hx
 by_cases zy:x=r∧r<999999
 ·obtain⟨rfl,Hc⟩:=zy
  rw[if_pos ⟨rfl,Hc⟩,mP] at hx
  simp only[Option.map_some,Option.some.injEq] at hx
  subst hx
  obtain⟨k1,k2⟩:=hr.sto.1 x _ mP
  refine⟨?_,k2⟩
  rcases k1 with ⟨c1,c2⟩|⟨b,arr,el,c1,c2,c3⟩
  ·have c2:ps.map EV.pv=[]:=c2
   exact .inl ⟨c1,by show(ps.take k).map EV.pv=[];rw[List.map_take,c2];simp⟩
  ·refine .inr ⟨b,arr,el,c1,c2,fun i e he => ?_⟩
   have he:((ps.take k).map EV.pv)[i]? = some e:=he
   rw[List.map_take] at he
   have cN:=(List.getElem?_eq_some_iff.1 he).1
   rw[List.length_take] at cN
   rw[List.getElem?_take_of_lt (by omega)] at he
   obtain⟨u,d1,d2,d3⟩:=c3 i e he
   exact⟨u,d1,d2,d3.mono (fun _ _=>rfl) hL (fun _ h=>h) (fun _ _ _=>rfl) (fun _ _ _ _=>rfl)⟩
 ·rw[if_neg zy] at hx
  obtain⟨k1,k2⟩:=hr.sto.1 x sc hx
  exact⟨k1.mono rfl (fun _ _=>rfl) (fun _ _=>rfl) hL (fun _ h=>h) (fun _ _ _=>rfl) (fun _ _ _ _=>rfl),k2⟩
end
end Go.Proofs.YtfjfekodeplcoaaGreat.Sym
