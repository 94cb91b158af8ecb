/- Bezout and Accepts of the program answer as the reference does. -/
import Derived.Test.YtboilcfohmmpbaaGreatDoorYSymK
namespace Go.Proofs.YtboilcfohmmpbaaGreatDoor.Sym
open Go Go.RowKit
section
variable {P:Program} {T:Tab} {Γ:Ctx} {s s':St} {a:Act} {w:World} {β:Nat→Option Nat} {I:Nat→Prop} {o:Oper} {h:Hint} {ob:List Prop}
theorem flat_cells{b sz:Nat} : ∀(ys:List (List PV)) (o:Nat) (f:Nat→Nat→Value),(∀row∈ys,row.length=sz) →
  (∀(i j:Nat) row x,ys[i]? = some row→row[j]? = some x→w.cell? ⟨b,o+(i*sz+j),none⟩=some (f i j)∧x.one=true∧Rd I w x (f i j)) →
  ∃us:List Value,(∀(j:Nat) u,us[j]? = some u→w.cell? ⟨b,o+j,none⟩=some u)∧RdCells I w ys.flatten us
 |[],o,f,_,_=>⟨[],fun j u h=>by simp at h,rfl,fun j c u h=>by simp at h⟩
 |row::ys,o,f,hl,h=>by
  have hrow:row.length=sz:=hl row (by simp)
  obtain⟨us,h1,h2⟩:=flat_cells ys (o+sz) (fun i j=>f (i+1) j) (fun r hr=>hl r (by simp[hr])) (fun i j r x hi hj=>by
   have:=h (i+1) j r x (by simpa using hi) hj
   rw[show o+sz+(i*sz+j)=o+((i+1)*sz+j) from by rw[Nat.add_mul];omega]
   exact this)
  have hget:∀(j:Nat),((List.range sz).map (f 0)++us)[j]? = if j<sz then some (f 0 j) else us[j-sz]? := by
   intro j
   rw[List.getElem?_append]
   simp only[List.length_map,List.length_range]
   by_cases hj:j<sz
   ·rw[if_pos hj,if_pos hj,List.getElem?_map,List.getElem?_range hj];rfl
   ·rw[if_neg hj,if_neg hj]
  refine⟨(List.range sz).map (f 0)++us,fun j u hu => ?_,by simp[hrow];simpa using h2.1,fun j c u hc hu => ?_⟩
  ·rw[hget] at hu
   by_cases hj:j<sz
   ·rw[if_pos hj] at hu
    injection hu with hu;subst hu
    have hx:row[j]? = some row[j]:=List.getElem?_eq_getElem (by omega)
    have:=(h 0 j row _ rfl hx).1
    simpa using this
   ·rw[if_neg hj] at hu
    have:=h1 _ u hu
    rw[show o+sz+(j-sz)=o+j from by omega] at this
    exact this
  ·rw[hget] at hu
   rw[List.flatten_cons,List.getElem?_append] at hc
   by_cases hj:j<sz
   ·rw[if_pos hj] at hu
    rw[if_pos (by omega)] at hc
    injection hu with hu;subst hu
    exact(h 0 j row c rfl hc).2
   ·rw[if_neg hj] at hu
    rw[if_neg (by omega),hrow] at hc
    exact h2.2 _ c u hc hu
theorem flat_len{sz:Nat} : ∀{ys:List (List PV)},(∀row∈ys,row.length=sz)→ys.flatten.length=ys.length*sz
 |[],_=>by simp
 |row::ys,h=>by
  have:=flat_len (sz:=sz) (ys:=ys) (fun r hr=>h r (by simp[hr]))
  have:=h row (by simp)
  simp only[List.flatten_cons,List.length_append,List.length_cons,Nat.succ_mul]
  omega
def Src(w:World)(I:Nat→Prop)(y:Value)(m:Nat)(qs:List PV):Prop :=
 (∃ao c,y = .slice ao 0 c∧m=0∧qs=[])∨∃b o c us,y = .slice (some ⟨b,o,none⟩) m c∧(∀(j:Nat) u,us[j]? = some u→w.cell? ⟨b,o+j,none⟩=some u)∧RdCells I w qs us
theorem src_list{ys:List (List PV)}{v:Value}{sz:Nat}(hv:Rd I w (.list ys) v)(hs:∀row∈ys,row.length=sz):Src w I v ys.length ys.flatten:=by
 cases hv with
 |nil ao c=>exact .inl ⟨ao,c,rfl,rfl,rfl⟩
 |list _ b o c s f hc hb hss ho hh =>
  have hsz:∀row∈ys,row.length=s:=fun row hr=>by
   obtain⟨i,hi⟩:=List.mem_iff_getElem?.1 hr
   exact hss i row hi
  obtain⟨us,h1,h2⟩:=flat_cells (w:=w) (I:=I) (b:=b) (sz:=s) ys o f hsz (fun i j row x hi hj=>⟨(ho i j row x hi hj).2,(ho i j row x hi hj).1,hh i j row x hi hj⟩)
  exact .inr ⟨b,o,c,us,rfl,h1,h2⟩
theorem src_row{r m sz sz2:Nat}{v:Value}{L:Nat→Prop}{qs:List PV}(hv:RE β L I w (.row r 0 m sz2) v)(hb:RB β L I w r (qs.map EV.pv))(hl:qs.length=m*sz):Src w I v m qs:=by
 obtain⟨_,⟨hn,rfl,rfl⟩|⟨b,c,hbr,rfl,_⟩⟩:=hv
 ·exact .inl ⟨none,0,rfl,rfl,List.eq_nil_of_length_eq_zero (by simpa using hl)⟩
 ·obtain⟨arr,el,hg,hla,hc⟩:=hb.block hbr
  refine .inr ⟨b,0,c,arr.toList.take qs.length,rfl,fun j u hu => ?_,by simp at hla ⊢;omega,fun j p u hp hu => ?_⟩
  ·rw[List.getElem?_take] at hu
   split at hu
   ·rw[Nat.zero_add,cell_of_row w b j arr el (0,0) hg];simpa using hu
   ·cases hu
  ·rw[List.getElem?_take] at hu
   split at hu
   ·obtain⟨u',g1,g2,g3⟩:=hc j (.pv p) (by rw[List.getElem?_map,hp];rfl)
    have:u'=u:=by simpa[g1] using hu
    subst this
    exact⟨PV.one_of_cell g3 g2,g3⟩
   ·cases hu
theorem run_append_zero{t e:TypeId}{de:TD}(hu:P.underlying t=some (.slice e))(hd:TDok P e de)(ty:TypeId)(ao bo:Option Addr)(len cap c:Nat)(hc:len≤cap) :
  (Builtin.append_ #[t,t] ty #[.slice ao len cap,.slice bo 0 c]).run P w = .ok (.slice ao len cap) w:=by
 cases ao<;>cases bo<;>simp[Builtin.append_,run_underlying hu,hd.run_sizeOf w,Builtin.lenOf,Builtin.firstCells,hc,loadCells,loadCellsFrom,storeCells]
theorem pureRB{β':Nat→Option Nat}{L':Nat→Prop}{d b:Nat}{ps:List PV}{arr:Array Value}{el:TypeId}(hg:w.heap[b]? = some (.cells arr el (0,0)))
  (hc:∀(j:Nat) p,ps[j]? = some p→∃u,arr[j]? = some u∧u.oneCell'=true∧Rd I w p u) (hb:β' d=some b):RB β' L' I w d (ps.map EV.pv):=by
 refine .inr ⟨b,arr,el,hb,hg,fun j e he => ?_⟩
 rw[List.getElem?_map] at he
 cases hj:ps[j]? with
 |none=>simp[hj] at he
 |some p =>
  simp[hj] at he
  subst he
  exact hc j p hj
theorem pureRB_inv{r b:Nat}{L:Nat→Prop}{ps:List PV}(h:RB β L I w r (ps.map EV.pv))(hb:β r=some b) :
  ∃arr el,w.heap[b]? = some (.cells arr el (0,0))∧ps.length≤arr.size∧∀(j:Nat) p,ps[j]? = some p→∃u,arr[j]? = some u∧u.oneCell'=true∧Rd I w p u:=by
 obtain⟨arr,el,h1,h2,h3⟩:=h.block hb
 refine⟨arr,el,h1,by simpa using h2,fun j p hp=>h3 j (.pv p) (by rw[List.getElem?_map,hp];rfl)⟩
theorem killSto_set0(r:Nat)(hr:r<999999)(sc:SC):∀(s:Sto),killSto r (Sto.set0 s r sc)=killSto r s
 |[]=>rfl
 |(r',c)::s=>by
  have hr':Nat.blt r 999999=true:=Nat.ble_eq_true_of_le hr
  simp only[Sto.set0]
  cases hb:Nat.beq r' r with
  |true=>simp[killSto,hb,hr']
  |false=>simp[killSto,hb,killSto_set0 r hr sc s]
theorem killSto_set(r:Nat)(sc:SC)(s:Sto):killSto r (Sto.set s r sc)=killSto r s:=by
 unfold Sto.set
 by_cases hr:r<999999
 ·rw[show Nat.blt r 999999=true from Nat.ble_eq_true_of_le hr]
  exact killSto_set0 r hr sc s
 ·rw[show Nat.blt r 999999=false from Bool.eq_false_iff.2 (fun h=>hr (Nat.le_of_ble_eq_true h))]
  rfl
theorem app_end(hr:RelB Γ s a w β I){r d len sz:Nat}{out:List PV}{v:Value}(hdn:d<Γ.n)(hnsd:¬dom Γ.sin d)(hndk:¬dom (killSto r s.sto) d){ob:Option Nat}
  (hb:∀b,ob=some b→b<w.heap.size∧¬I b∧Γ.Nw b∧∀x,dom (killSto r s.sto) x→β x≠some b)
  (hrb:RB (fun x=>if x=d then ob else β x) (fun x=>dom (killSto r s.sto) x∨x=d) I w d (out.map EV.pv))
  (hv:(ob=none∧len=0∧v = .slice none 0 0)∨∃b c,ob=some b∧v = .slice (some ⟨b,0,none⟩) len c∧len≤c∧∃el n,w.shape? b=some (el,n)∧0+c*sz≤n) :
  Rel Γ ⟨setD (kill r s).env (some d) (.row d 0 len sz),(d,.pure out)::(kill r s).sto⟩ (a.put (some d) v) w:=by
 have h1:=hr.kill r
 have hd9:d<999999:=Nat.lt_of_lt_of_le hdn Γ.small
 have h2:=h1.site (d:=d) (sc := .pure out) hd9 hndk hnsd (β':=fun x=>if x=d then ob else β x) (fun x hx=>if_neg hx) (fun b hb'=>hb b (by simpa using hb')) hrb
 refine⟨_,_,h2.put (dst:=some d) (fun d' hd'=>by injection hd' with hd';rw[←hd'];exact hdn) ⟨(dom_cons hd9).2 (.inl rfl),?_⟩⟩
 simpa using hv
theorem run_append_room_el{t e elb:TypeId}{i:TypeInfo}(ht:P.underlying t=some (.slice e))(hi:P.info? e=some i)(ty:TypeId)
  (g sLen sCap:Nat) (cur:Array Value) (hg:w.heap[g]? = some (.cells cur elb (0,0)))
  (ad:Addr) (m c:Nat) (news:List Value) (hl:news.length=m*i.size) (hnews:∀j u,news[j]? = some u→w.cell? (ad.add j)=some u) (h1:∀u∈news,u.oneCell'=true)
  (hroom:sLen+m≤sCap) (hfit:sLen*i.size+news.length≤cur.size) :
  (Builtin.append_ #[t,t] ty #[.slice (some ⟨g,0,none⟩) sLen sCap,.slice (some ad) m c]).run P w =
   .ok (.slice (some ⟨g,0,none⟩) (sLen+m) sCap) (w.setRow g (cur.toList.take (sLen*i.size)++news++cur.toList.drop (sLen*i.size+news.length)).toArray):=by
 have hf:=run_firstCells_some (P:=P) w i.size m ad m c news hl hnews
 have hst:=run_storeCells_at P g (sLen*i.size) elb news 0 cur w hg (by simpa using hfit) h1
 simp only[Nat.add_zero] at hst
 simp[Builtin.append_,run_underlying ht,sizeOf,typeInfo,hi,Builtin.lenOf,hroom,hf,Addr.add_lit,hst]
def srcOf(sto:Sto)(r:Nat)(e:EV):Option (Nat×List PV×Option (List (List PV))) :=
 match e with
 |.row r2 0 m _=>bif Nat.beq r2 r then none else match sto.get r2 with
  |some (.pure qs)=>some (m,qs,none)
  |_=>none
 |.pv (.list ys)=>some (ys.length,ys.flatten,some ys)
 |_=>none
def srcOb(m sz:Nat)(qs:List PV):Option (List (List PV))→Prop
 |none=>qs.length=m*sz
 |some ys=>∀row∈ys,row.length=sz
abbrev SrcF:=Sto→Nat→EV→Option (Nat×List PV×Option (List (List PV)))
def stepAppG(src:SrcF)(T:Tab)(n:Nat)(o:Oper)(h:Hint)(s:St):Option (St×List Prop) :=
 match o.op,o.dst,h with
 |.call c,some d,.app len' out=>match c.callee,c.args.toList,c.argTypes.toList with
  |.builtin .append,[x,y],[t1,t2]=>bif Nat.beq t1 t2&&Nat.blt d n then
    match T.get t1 with
    |some dt=>match dt.kind with
     |.slice el=>match T.get el,evalO s.env x,evalO s.env y with
      |some de,some (.row r 0 len sz),some ey=>match s.sto.get r,src s.sto r ey,(kill r s).sto.get d with
       |some (.pure ps),some (m,qs,ys),none=>bif Nat.beq sz de.size&&Nat.ble 1 sz&&Nat.blt r n then
         some (⟨setD (kill r s).env (some d) (.row d 0 len' sz),(d,.pure out)::(kill r s).sto⟩,
          [ps.length=len*sz,srcOb m sz qs ys,len+m=len',ps++qs=out,len'*de.bytes≤140737488355328,len'<9223372036854775808])
        else none
       |_,_,_=>none
      |_,_,_=>none
     |_=>none
    |none=>none
   else none
  |_,_,_=>none
 |_,_,_=>none
theorem stepAppG_sound{src:SrcF}(HS:∀{β:Nat→Option Nat} {I:Nat→Prop},RelB Γ s a w β I→∀{r m sz:Nat} {ey:EV} {v:Value} {qs:List PV} {ys:Option (List (List PV))},src s.sto r ey=some (m,qs,ys)→srcOb m sz qs ys→RE β (dom s.sto) I w ey v→Src w I v m qs∧qs.length=m*sz)(hT:TOk P T)(hs:∀r,dom Γ.sin r→Γ.n≤r)(hr:Rel Γ s a w)(hst:stepAppG src T Γ.n o h s=some (s',ob))(hob:Alls ob){K:Act→World→Prop}{Q:Exit→Act→World→Prop}
  (hk:∀a' w',Rel Γ s' a' w'→K a' w'):o.wp P a w K Q:=by
 obtain⟨β,I,hr⟩:=hr
 unfold stepAppG at hst
 split at hst
 ·rename_i c d len' out hop hdst
  split at hst
  ·rename_i x y t1 t2 hcl hargs hats
   cases hb1:(Nat.beq t1 t2&&Nat.blt d Γ.n) with
   |false=>simp[hb1] at hst
   |true =>
    simp only[hb1,cond_true] at hst
    simp only[Bool.and_eq_true] at hb1
    have h12:t1=t2:=Nat.eq_of_beq_eq_true hb1.1
    have hdn:d<Γ.n:=Nat.le_of_ble_eq_true hb1.2
    subst h12
    split at hst
    ·rename_i dt hdt
     split at hst
     ·rename_i el hk'
      obtain⟨un,hu,_,hf⟩:=(hT t1 dt hdt).under
      rw[hk'] at hf
      have hf:un = .slice el:=hf
      subst hf
      split at hst
      ·rename_i de r len sz ey hde hx hy
       split at hst
       ·rename_i ps m qs ys hps hsrc hnone
        cases hb2:(Nat.beq sz de.size&&Nat.ble 1 sz&&Nat.blt r Γ.n) with
        |false=>simp[hb2] at hst
        |true =>
         simp only[hb2,cond_true] at hst
         simp only[Bool.and_eq_true] at hb2
         have hsz:sz=de.size:=Nat.eq_of_beq_eq_true hb2.1.1
         have hsz1:1≤sz:=Nat.le_of_ble_eq_true hb2.1.2
         have hrn:r<Γ.n:=Nat.le_of_ble_eq_true hb2.2
         injection hst with hst;injection hst with h1 h2
         subst h1;subst h2
         obtain⟨g1,hob⟩:=hob.cons
         obtain⟨g2,hob⟩:=hob.cons
         obtain⟨g3,hob⟩:=hob.cons
         obtain⟨g4,hob⟩:=hob.cons
         obtain⟨g5,g6⟩:=hob.cons
         have g6:len'<9223372036854775808:=g6
         subst g3;subst g4
         obtain⟨i,hi,hi2,hi3,z,hz,_,hzs,_⟩:=(hT el de hde).info
         have hex:=hr.evO x _ hx
         have hey:=hr.evO y _ hy
         obtain⟨hdr,hrow⟩:=hex
         have hrb:=(hr.sto.1 r _ hps).1
         have hnsr:¬dom Γ.sin r:=fun h=>by have:=hs r h;omega
         have hnsd:¬dom Γ.sin d:=fun h=>absurd (hs d h) (Nat.not_le_of_lt hdn)
         have hndk:¬dom (kill r s).sto d:=by unfold dom;rw[hnone];simp
         have hsrc2:Src w I (a.eval y) m qs∧qs.length=m*sz:=HS hr hsrc g2 hey
         obtain⟨hsrc',hql⟩:=hsrc2
         have hwp:∀v' w',(Builtin.append_ #[t1,t1] o.type #[a.eval x,a.eval y]).run P w = .ok v' w'→Rel Γ ⟨setD (kill r s).env (some d) (.row d 0 (len+m) sz),(d,.pure (ps++qs))::(kill r s).sto⟩ (a.put (some d) v') w'→o.wp P a w K Q:=by
          intro v' w' hrun hrel
          have hargs':=arr2 hargs
          have hats':=arr2 hats
          obtain⟨cl,args,ats⟩:=c
          simp only at hcl hargs' hats'
          subst hcl;subst hargs';subst hats'
          unfold Oper.wp execOp
          simp only[hop,resolve,invoke,builtin,Sem.run_bind,Sem.run_pure,Result.andThen_ok,List.map_toArray,List.map_cons,List.map_nil,hrun]
          show K (a.put o.dst v') w'
          rw[hdst]
          exact hk _ _ hrel
         have hbytes:(len+m)*i.bytes≤140737488355328:=by rw[hi3];exact g5
         have hmax:len+m≤maxLen:=by unfold maxLen;omega
         have hdk:∀b,β r=some b→∀x,dom (killSto r s.sto) x→β x≠some b:=fun b hb x hx e =>
          (dom_kill.1 hx).2 (hr.sto.2 x r b (dom_kill.1 hx).1 hdr e hb)
         rcases hrow with ⟨hbn,hl0,hvx⟩|⟨b,cap,hbr,hvx,hlc,elx,nx,hsh,hfit⟩
         ·
          subst hl0
          have hps0:ps=[]:=List.eq_nil_of_length_eq_zero (by simpa using g1)
          subst hps0
          rcases hsrc' with ⟨ao,c2,hvy,rfl,rfl⟩|⟨b2,o2,c2,us,hvy,hus,hrd⟩
          ·refine hwp _ _ (by rw[hvx,hvy];exact run_append_zero hu (hT el de hde) _ none ao 0 0 c2 (Nat.le_refl _)) ?_
           exact app_end hr (ob:=none) hdn hnsd hndk (fun b hb=>by cases hb) (.inl ⟨by simp,rfl⟩) (.inl ⟨rfl,rfl,rfl⟩)
          ·have hul:us.length=m*i.size:=by rw[←hrd.1,hi2,←hsz];exact hql
           have hus':∀(j:Nat) u,us[j]? = some u→w.cell? ((⟨b2,o2,none⟩:Addr).add j)=some u:=fun j u hu'=>by rw[add_addr];exact hus j u hu'
           rcases Nat.eq_zero_or_pos m with hm0|hm0
           ·subst hm0
            have hq0:qs=[]:=List.eq_nil_of_length_eq_zero (by simpa using hql)
            subst hq0
            refine hwp _ _ (by rw[hvx,hvy];exact run_append_zero hu (hT el de hde) _ none _ 0 0 c2 (Nat.le_refl _)) ?_
            exact app_end hr (ob:=none) hdn hnsd hndk (fun b hb=>by cases hb) (.inl ⟨by simp,rfl⟩) (.inl ⟨rfl,rfl,rfl⟩)
           ·have hrun:=run_append_nil (P:=P) w t1 o.type el i z hu hi hz ⟨b2,o2,none⟩ m c2 us hul hus' hm0 (by omega) (by simp only[Nat.zero_add] at hbytes;omega)
            refine hwp _ _ (by rw[hvx,hvy];exact hrun) ?_
            have hgrow:RelB Γ s a (w.drew.alloc (.cells (us.toArray++Builtin.zeroCells z.cells (grownCap w m 0 el-m)) el)) β I :=
             hr.grow (((Bel.refl _ _).drew).alloc (Nat.le_refl _) _) (fun b h=>h) (fun b h => .inl h)
            have hnew:(w.drew.alloc (.cells (us.toArray++Builtin.zeroCells z.cells (grownCap w m 0 el-m)) el)).heap[w.heap.size]? = some (.cells (us.toArray++Builtin.zeroCells z.cells (grownCap w m 0 el-m)) el (0,0)):=heap_alloc_new w.drew _
            have hge:=grownCap_ge w m 0 el
            have hcells:∀(j:Nat) p,(([]:List PV)++qs)[j]? = some p→∃u,(us.toArray++Builtin.zeroCells z.cells (grownCap w m 0 el-m))[j]? = some u∧u.oneCell'=true∧Rd I (w.drew.alloc (.cells (us.toArray++Builtin.zeroCells z.cells (grownCap w m 0 el-m)) el)) p u:=by
             intro j p hp
             simp only[List.nil_append] at hp
             have hj:j<us.length:=by rw[←hrd.1];exact(List.getElem?_eq_some_iff.1 hp).1
             obtain⟨q1,q2⟩:=hrd.2 j p us[j] hp (List.getElem?_eq_getElem hj)
             refine⟨us[j],by rw[Array.getElem?_append_left (by simpa using hj)];simp[hj],q2.oneCell q1,q2.mono (fun _ h=>h) (fun b o hI=>cell_heap (Below.heap_alloc w.drew _ b (hr.ib b hI)) o)⟩
            refine app_end hgrow (ob:=some w.heap.size) hdn hnsd hndk (fun b hb => ?_) (pureRB hnew hcells (by simp)) (.inr ⟨w.heap.size,grownCap w m 0 el,rfl,by simp,by simpa using hge,el,_,by unfold World.shape?;rw[hnew],?_⟩)
            ·injection hb with hb;subst hb
             exact⟨by simp,fun hI=>Nat.lt_irrefl _ (hr.ib _ hI),(.inl hr.keep.size),fun x hx e=>Nat.lt_irrefl _ (hr.lb x _ (dom_kill.1 hx).1 e)⟩
            ·simp only[Array.size_append,List.size_toArray,hul,size_zeroCells,hzs,hi2,hsz]
             rw[←Nat.add_mul]
             have:m+(grownCap w m 0 el-m)=grownCap w m 0 el:=by omega
             rw[this];omega
         ·
          have hw0:Γ.Nw b:=hr.new r b hdr (.inl hnsr) hbr
          have hbI:=((hr.sto.1 r _ hps).2 b hbr)
          obtain⟨arr,elb,hg,hpl,hcs⟩:=pureRB_inv hrb hbr
          have hnx:w.shape? b=some (elb,arr.size):=by unfold World.shape?;rw[hg]
          have hsz':nx=arr.size:=by
           rw[hnx] at hsh;injection hsh with hsh;injection hsh with h1 h2;exact h2.symm
          subst hsz'
          rcases Nat.eq_zero_or_pos m with hm0|hm0
          ·have hvy:∃bo c2,a.eval y = .slice bo 0 c2:=by
            rcases hsrc' with ⟨ao,c2,hvy,_⟩|⟨b2,o2,c2,us,hvy,_⟩
            ·exact⟨_,_,hvy⟩
            ·exact⟨_,_,by rw[hvy,hm0]⟩
           obtain⟨bo,c2,hvy⟩:=hvy
           subst hm0
           have hq0:qs=[]:=List.eq_nil_of_length_eq_zero (by simpa using hql)
           subst hq0
           refine hwp _ _ (by rw[hvx,hvy];exact run_append_zero hu (hT el de hde) _ _ _ len cap c2 hlc) ?_
           exact app_end hr (ob:=some b) hdn hnsd hndk (fun b' hb'=>by injection hb' with hb';subst hb';exact⟨hbI.1,hbI.2,hw0,hdk b hbr⟩)
            (pureRB hg (fun j p hp=>hcs j p (by simpa using hp)) (by simp)) (.inr ⟨b,cap,rfl,rfl,hlc,elb,_,hnx,hfit⟩)
          ·rcases hsrc' with ⟨_,_,_,hm,_⟩|⟨b2,o2,c2,us,hvy,hus,hrd⟩
           ·omega
           have hul:us.length=m*i.size:=by rw[←hrd.1,hi2,←hsz];exact hql
           have hus':∀(j:Nat) u,us[j]? = some u→w.cell? ((⟨b2,o2,none⟩:Addr).add j)=some u:=fun j u hu'=>by rw[add_addr];exact hus j u hu'
           have hus1:∀u∈us,u.oneCell'=true:=fun u hu'=>by
            obtain⟨j,hj⟩:=List.mem_iff_getElem?.1 hu'
            have hjl:j<qs.length:=by rw[hrd.1];exact(List.getElem?_eq_some_iff.1 hj).1
            obtain⟨q1,q2⟩:=hrd.2 j _ u (List.getElem?_eq_getElem hjl) hj
            exact q2.oneCell q1
           have hlsz:len*i.size=ps.length:=by rw[hi2,←hsz];exact g1.symm
           have hcsz:cap*sz≤arr.size:=by omega
           by_cases hroom:len+m≤cap
           ·have hfit2:len*i.size+us.length≤arr.size:=by
             have h3:(len+m)*sz≤cap*sz:=Nat.mul_le_mul_right _ hroom
             rw[Nat.add_mul] at h3
             rw[hul,hi2,←hsz];omega
            have hrun:=run_append_room_el (P:=P) hu hi o.type b len cap arr hg ⟨b2,o2,none⟩ m c2 us hul hus' hus1 hroom hfit2
            refine hwp _ _ (by rw[hvx,hvy];exact hrun) ?_
            have hasz:(arr.toList.take (len*i.size)++us++arr.toList.drop (len*i.size+us.length)).toArray.size=arr.size:=by
             simp;omega
            have hget:∀j,(arr.toList.take (len*i.size)++us++arr.toList.drop (len*i.size+us.length)).toArray[j]? = if len*i.size≤j∧j<len*i.size+us.length then us[j-len*i.size]? else arr[j]? := by
             intro j
             have:=splice_get arr.toList (len*i.size) us (by simp;omega) j
             unfold splice at this
             rw[←List.append_assoc] at this
             simp only[List.getElem?_toArray]
             rw[this]
             simp only[Array.getElem?_toList]
            have hnewc:∀(j:Nat) p,(ps++qs)[j]? = some p→∃u,(arr.toList.take (len*i.size)++us++arr.toList.drop (len*i.size+us.length)).toArray[j]? = some u∧u.oneCell'=true∧Rd I w p u:=by
             intro j p hp
             rw[hget j]
             rw[List.getElem?_append] at hp
             by_cases hj:j<ps.length
             ·rw[if_pos hj] at hp
              rw[if_neg (by omega)]
              exact hcs j p hp
             ·rw[if_neg hj] at hp
              have hjq:=(List.getElem?_eq_some_iff.1 hp).1
              have hju:j-ps.length<us.length:=by rw[←hrd.1];exact hjq
              rw[if_pos (by omega),hlsz]
              obtain⟨q1,q2⟩:=hrd.2 _ p us[j-ps.length] hp (List.getElem?_eq_getElem hju)
              exact⟨_,List.getElem?_eq_getElem hju,q2.oneCell q1,q2⟩
            have hwr:=hr.write (sc' := .pure (ps++qs)) (Nat.lt_of_lt_of_le hrn Γ.small) hps hbr hg hasz (fun j e' he'=>by
             simp only[SC.evs,List.getElem?_map] at he'
             cases hp:(ps++qs)[j]? with
             |none=>simp[hp] at he'
             |some p =>
              simp[hp] at he'
              subst he'
              exact hnewc j p hp)
            have hdk2:killSto r (Sto.set s.sto r (.pure (ps++qs)))=killSto r s.sto:=killSto_set r _ s.sto
            have hkeq:kill r ⟨s.env,Sto.set s.sto r (.pure (ps++qs))⟩=kill r s:=by unfold kill;simp only[hdk2]
            have hend:=app_end hwr (r:=r) (d:=d) (len:=len+m) (sz:=sz) (out:=ps++qs) (v := .slice (some ⟨b,0,none⟩) (len+m) cap) (ob:=some b) hdn hnsd (by rw[hdk2];exact hndk)
             (fun b' hb'=>by
              injection hb' with hb';subst hb'
              rw[hdk2]
              exact⟨by simpa[World.setRow] using hbI.1,hbI.2,hw0,hdk b hbr⟩)
             (pureRB (setRow_heap w b arr _ elb (0,0) hg) (fun j p hp=>by
              obtain⟨u,q1,q2,q3⟩:=hnewc j p hp
              exact⟨u,q1,q2,q3.mono (fun _ h=>h) (fun b' o' hI=>cell_heap (setRow_other w b b' _ (fun e=>hbI.2 (e ▸ hI))) o')⟩) (by simp))
             (.inr ⟨b,cap,rfl,rfl,hroom,elb,arr.size,by rw[shape_setRow w b b _ arr elb (0,0) hg hasz];exact hnx,hfit⟩)
            rw[hkeq] at hend
            exact hend
           ·have hlps:(arr.toList.take ps.length).length=len*i.size:=by simp;omega
            have holds:∀(j:Nat) v,(arr.toList.take ps.length)[j]? = some v→w.cell? ((⟨b,0,none⟩:Addr).add j)=some v:=by
             intro j v hv
             rw[add_addr,Nat.zero_add,cell_of_row w b j arr elb (0,0) hg]
             rw[List.getElem?_take] at hv
             split at hv
             ·simpa using hv
             ·cases hv
            have hrun:=run_append_grow (P:=P) w t1 o.type el i z hu hi hz ⟨b,0,none⟩ len cap (arr.toList.take ps.length) hlps holds ⟨b2,o2,none⟩ m c2 us hul hus' (by omega) (by omega) (growslice_fits (by omega) hbytes)
            refine hwp _ _ (by rw[hvx,hvy];exact hrun) ?_
            generalize hW:((arr.toList.take ps.length).toArray++us.toArray++Builtin.zeroCells z.cells (grownCap w (len+m) cap el-(len+m)):Array Value)=narr
            have hgrow:RelB Γ s a (w.drew.alloc (.cells narr el)) β I :=
             hr.grow (((Bel.refl _ _).drew).alloc (Nat.le_refl _) _) (fun b h=>h) (fun b h => .inl h)
            have hnew:(w.drew.alloc (.cells narr el)).heap[w.heap.size]? = some (.cells narr el (0,0)):=heap_alloc_new w.drew _
            have hge:=grownCap_ge w (len+m) cap el
            have hmono:∀{p:PV} {u:Value},Rd I w p u→Rd I (w.drew.alloc (.cells narr el)) p u:=fun h=>h.mono (fun _ h=>h) (fun b o hI=>cell_heap (Below.heap_alloc w.drew _ b (hr.ib b hI)) o)
            have hcells:∀(j:Nat) p,(ps++qs)[j]? = some p→∃u,narr[j]? = some u∧u.oneCell'=true∧Rd I (w.drew.alloc (.cells narr el)) p u:=by
             intro j p hp
             have hl1:(arr.toList.take ps.length).length=ps.length:=by simp;omega
             have hnarr:narr[j]? = if j<ps.length then arr[j]? else if j<ps.length+us.length then us[j-ps.length]? else (Builtin.zeroCells z.cells (grownCap w (len+m) cap el-(len+m)))[j-(ps.length+us.length)]? := by
              rw[←hW,Array.getElem?_append,Array.getElem?_append]
              simp only[Array.size_append,List.size_toArray,hl1,List.getElem?_toArray]
              by_cases hj:j<ps.length
              ·rw[if_pos (by omega),if_pos hj,if_pos hj,List.getElem?_take,if_pos hj];simp
              ·by_cases hj2:j<ps.length+us.length
               ·rw[if_pos hj2,if_neg hj,if_neg hj,if_pos hj2]
               ·rw[if_neg hj2,if_neg hj,if_neg hj2]
             rw[hnarr]
             rw[List.getElem?_append] at hp
             by_cases hj:j<ps.length
             ·rw[if_pos hj] at hp ⊢
              obtain⟨u,q1,q2,q3⟩:=hcs j p hp
              exact⟨u,q1,q2,hmono q3⟩
             ·rw[if_neg hj] at hp ⊢
              have hjq:=(List.getElem?_eq_some_iff.1 hp).1
              have hju:j-ps.length<us.length:=by rw[←hrd.1];exact hjq
              rw[if_pos (by omega)]
              obtain⟨q1,q2⟩:=hrd.2 _ p us[j-ps.length] hp (List.getElem?_eq_getElem hju)
              exact⟨_,List.getElem?_eq_getElem hju,q2.oneCell q1,hmono q2⟩
            refine app_end hgrow (ob:=some w.heap.size) hdn hnsd hndk (fun b' hb' => ?_) (pureRB hnew hcells (by simp)) (.inr ⟨w.heap.size,grownCap w (len+m) cap el,rfl,rfl,hge,el,_,by unfold World.shape?;rw[hnew],?_⟩)
            ·injection hb' with hb';subst hb'
             exact⟨by simp,fun hI=>Nat.lt_irrefl _ (hr.ib _ hI),(.inl hr.keep.size),fun x hx e=>Nat.lt_irrefl _ (hr.lb x _ (dom_kill.1 hx).1 e)⟩
            ·rw[←hW]
             simp only[Array.size_append,List.size_toArray,hlps,hul,size_zeroCells,hzs,hi2,hsz]
             rw[←Nat.add_mul,←Nat.add_mul]
             have:len+m+(grownCap w (len+m) cap el-(len+m))=grownCap w (len+m) cap el:=by omega
             rw[this];omega
       ·cases hst
      ·cases hst
     ·cases hst
    ·cases hst
  ·cases hst
 ·cases hst
theorem src_cells{w:World}{I:Nat→Prop}{y:Value}{m sz:Nat}{qs:List PV}(hsrc:Src w I y m qs)(hl:qs.length=m*sz)(k:Nat)(hk:k≤m) :
  ∃news,RdCells I w (qs.take (k*sz)) news∧news.length=k*sz∧(∀(P:Program),(Builtin.firstCells sz k y).run P w = .ok news.toArray w)∧∀(P:Program),(Builtin.lenOf y).run P w = .ok m w:=by
 rcases hsrc with ⟨ao,c,rfl,rfl,rfl⟩|⟨b,o,c,us,rfl,h1,h2⟩
 ·have:k=0:=by omega
  subst this
  refine⟨[],⟨by simp,fun j p u h=>by simp at h⟩,by simp,fun P => ?_,fun P=>rfl⟩
  cases ao with
  |none=>rfl
  |some a=>simp[Builtin.firstCells,loadCells,loadCellsFrom]
 ·have hlu:us.length=m*sz:=by rw[←h2.1];exact hl
  have hkm:k*sz≤m*sz:=Nat.mul_le_mul_right _ hk
  refine⟨us.take (k*sz),⟨by simp;omega,fun j p u hp hu => ?_⟩,by simp;omega,fun P => ?_,fun P=>rfl⟩
  ·rw[List.getElem?_take] at hp hu
   split at hp
   ·rename_i hj
    rw[if_pos hj] at hu
    exact h2.2 j p u hp hu
   ·cases hp
  ·have:=run_loadCells_list (P:=P) w ⟨b,o,none⟩ (us.take (k*sz)) (fun j v hv=>by
    rw[List.getElem?_take] at hv
    split at hv
    ·rw[Addr.add_lit];exact h1 j v hv
    ·cases hv)
   rw[List.length_take,Nat.min_eq_left (by omega)] at this
   simpa[Builtin.firstCells] using this
theorem run_copy_own{dT sT ty e:TypeId}{i:TypeInfo}(hu:P.underlying dT=some (.slice e))(hi:P.info? e=some i)(g off dLen dCap:Nat){cur:Array Value}{elb:TypeId}(hg:w.heap[g]? = some (.cells cur elb (0,0))){y:Value}{m k:Nat}{qs:List PV}
  (hsrc:Src w I y m qs) (hl:qs.length=m*i.size) (hk:min m dLen=k) (hfit:off+k*i.size≤cur.size) :
  ∃news,RdCells I w (qs.take (k*i.size)) news∧news.length=k*i.size ∧
   (Builtin.copy_ #[dT,sT] ty #[.slice (some ⟨g,off,none⟩) dLen dCap,y]).run P w = .ok (goInt k) (w.setRow g (cur.toList.take off++news++cur.toList.drop (off+news.length)).toArray):=by
 obtain⟨news,h1,h2,h3,h4⟩:=src_cells hsrc hl k (by omega)
 refine⟨news,h1,h2,?_⟩
 have hst:=run_storeCells_at P g off elb news 0 cur w hg (by simp;omega) (fun v hv=>by
  obtain⟨j,hj⟩:=List.mem_iff_getElem?.1 hv
  have hjl:j<(qs.take (k*i.size)).length:=by rw[h1.1];exact(List.getElem?_eq_some_iff.1 hj).1
  obtain⟨k1,k2⟩:=h1.2 j _ v (List.getElem?_eq_getElem hjl) hj
  exact k2.oneCell k1)
 simp only[Nat.add_zero] at hst
 have hmin:Nat.min m dLen=k:=hk
 simp[Builtin.copy_,run_underlying hu,sizeOf,typeInfo,hi,h4 P,hmin,h3 P,hst]
def stepCopy(T:Tab)(n:Nat)(o:Oper)(h:Hint)(s:St):Option (St×List Prop) :=
 match o.op,h with
 |.call c,.app k out=>match c.callee,c.args.toList,c.argTypes.toList with
  |.builtin .copy,[x,y],[t1,_]=>bif dstOk n o.dst then
    match T.get t1 with
    |some dt=>match dt.kind with
     |.slice el=>match T.get el,evalO s.env x,evalO s.env y with
      |some de,some (.row r off len sz),some ey=>match s.sto.get r,srcOf s.sto r ey with
       |some (.pure ps),some (m,qs,ys)=>bif Nat.beq sz de.size&&Nat.blt r 999999 then
         some (⟨setD s.env o.dst (.pv (.int .i64 (k:Int))),Sto.set s.sto r (.pure out)⟩,
          [srcOb m sz qs ys,min m len=k,off+k*sz≤ps.length,splice ps off (qs.take (k*sz))=out])
        else none
       |_,_=>none
      |_,_,_=>none
     |_=>none
    |none=>none
   else none
  |_,_,_=>none
 |_,_=>none
theorem splice_map{α β:Type}(f:α→β)(cells:List α)(off:Nat)(new:List α):(splice cells off new).map f=splice (cells.map f) off (new.map f):=by
 simp[splice,List.map_take,List.map_drop]
theorem stepCopy_sound(hT:TOk P T)(hr:Rel Γ s a w)(hst:stepCopy T Γ.n o h s=some (s',ob))(hob:Alls ob){K:Act→World→Prop}{Q:Exit→Act→World→Prop}
  (hk:∀a' w',Rel Γ s' a' w'→K a' w'):o.wp P a w K Q:=by
 obtain⟨β,I,hr⟩:=hr
 unfold stepCopy at hst
 split at hst
 ·rename_i c k out hop
  split at hst
  ·rename_i x y t1 t2 hcl hargs hats
   cases hd:dstOk Γ.n o.dst with
   |false=>simp[hd] at hst
   |true =>
    simp only[hd,cond_true] at hst
    split at hst
    ·rename_i dt hdt
     split at hst
     ·rename_i el hk'
      obtain⟨un,hu,_,hf⟩:=(hT t1 dt hdt).under
      rw[hk'] at hf
      have hf:un = .slice el:=hf
      subst hf
      split at hst
      ·rename_i de r off len sz ey hde hx hy
       split at hst
       ·rename_i ps m qs ys hps hsrc
        cases hb20:(Nat.beq sz de.size&&Nat.blt r 999999) with
        |false=>simp[hb20] at hst
        |true =>
         simp only[hb20,cond_true] at hst
         rw[Bool.and_eq_true] at hb20
         have hb2:=hb20.1
         have hr9:r<999999:=Nat.le_of_ble_eq_true hb20.2
         have hsz:sz=de.size:=Nat.eq_of_beq_eq_true hb2
         injection hst with hst;injection hst with h1 h2
         subst h1;subst h2
         obtain⟨g1,hob⟩:=hob.cons
         obtain⟨g2,hob⟩:=hob.cons
         obtain⟨g3,g4⟩:=hob.cons
         have g4:splice ps off (qs.take (k*sz))=out:=g4
         obtain⟨i,hi,his,_,_⟩:=(hT el de hde).info
         obtain⟨cl,args,ats⟩:=c
         have hcl:cl = .builtin .copy:=hcl
         subst hcl
         have hargs':args = #[x,y]:=arr2 hargs
         have hats':ats = #[t1,t2]:=arr2 hats
         subst hargs';subst hats'
         have hS:Src w I (a.eval y) m qs∧qs.length=m*sz:=by
          have hyv:=hr.evO y _ hy
          unfold srcOf at hsrc
          split at hsrc
          ·rename_i r2 m2 sz2
           cases hbr:Nat.beq r2 r with
           |true=>simp[hbr] at hsrc
           |false =>
            simp only[hbr,cond_false] at hsrc
            split at hsrc
            ·rename_i qs2 hq2
             injection hsrc with hsrc;injection hsrc with e1 e2;injection e2 with e2 e3
             subst e1;subst e2;subst e3
             have g1:qs2.length=m2*sz:=g1
             exact⟨src_row hyv ((hr.sto.1 r2 _ hq2).1) g1,g1⟩
            ·cases hsrc
          ·rename_i ys2
           injection hsrc with hsrc;injection hsrc with e1 e2;injection e2 with e2 e3
           subst e1;subst e2;subst e3
           have g1:∀row∈ys2,row.length=sz:=g1
           exact⟨src_list hyv g1,flat_len g1⟩
          ·cases hsrc
         obtain⟨hdr,hv⟩:=hr.evO x _ hx
         have hexec:∀v w',(Builtin.copy_ #[t1,t2] o.type #[a.eval x,a.eval y]).run P w = .ok v w'→(execOp a.eval o).run P w = .ok (.value v) w':=by
          intro v w' hrun
          simp[execOp,hop,resolve,invoke,builtin,hrun]
         rcases hv with ⟨hbn,hl0,hv⟩|⟨b,cap,hb,hv,hc,elb',nn,hsh,hcap⟩
         ·
          subst hl0
          have hk0:k=0:=by rw[←g2];exact Nat.min_zero m
          subst hk0
          have hps0:ps=[]:=by
           rcases(hr.sto.1 r _ hps).1 with ⟨_,h2⟩|⟨b,arr,elq,hb,_⟩
           ·have h2:ps.map EV.pv=[]:=h2
            simpa using h2
           ·rw[hbn] at hb;cases hb
          subst hps0
          have hout:out=[]:=by rw[←g4];simp[splice]
          subst hout
          obtain⟨news,_,n2,n3,n4⟩:=src_cells hS.1 hS.2 0 (Nat.zero_le _)
          have hnews:news=[]:=List.eq_nil_of_length_eq_zero (by simpa using n2)
          subst hnews
          have hrun:(Builtin.copy_ #[t1,t2] o.type #[a.eval x,a.eval y]).run P w = .ok (goInt 0) w:=by
           rw[hv]
           simp[Builtin.copy_,run_underlying hu,sizeOf,typeInfo,hi,his,←hsz,n4 P,n3 P]
          unfold Oper.wp
          rw[hexec _ _ hrun]
          refine hk _ _ (Rel.like (s:=⟨setD s.env o.dst (.pv (.int .i64 (0:Nat))),s.sto⟩) ⟨fun _=>rfl,fun z => ?_⟩ ⟨β,I,hr.put (dstOk_spec hd) (Rd.int _ _)⟩)
          show(Sto.set s.sto r (.pure [])).get z=s.sto.get z
          rw[Sto.get_set]
          split
          ·rename_i hz;rw[hz.1,hps];rfl
          ·rfl
         ·obtain⟨arr,elb,hg,hla,hcells⟩:=(hr.sto.1 r _ hps).1.block hb
          have hla:ps.length≤arr.size:=by simpa[SC.evs] using hla
          obtain⟨news,n1,n2,n3⟩:=run_copy_own (ty:=o.type) (sT:=t2) (I:=I) hu hi b off len cap hg hS.1 (by rw[his,←hsz];exact hS.2) g2 (by rw[his,←hsz];omega)
          rw[his,←hsz] at n1 n2
          rw[hv] at hexec
          unfold Oper.wp
          rw[hexec _ _ n3]
          have hlen:(arr.toList.take off++news++arr.toList.drop (off+news.length)).toArray.size=arr.size:=by simp;omega
          have hq:(qs.take (k*sz)).length=k*sz:=n1.1.trans n2
          have hrel:=hr.write (sc' := .pure out) hr9 hps hb hg hlen (fun j e he=>by
           have he:(out.map EV.pv)[j]? = some e:=he
           rw[←g4,List.getElem?_map,splice_get _ _ _ (by rw[hq];exact g3),hq] at he
           have hget:(arr.toList.take off++news++arr.toList.drop (off+news.length)).toArray[j]? = if off≤j∧j<off+k*sz then news[j-off]? else arr[j]? := by
            have:=splice_get arr.toList off news (by simp;omega) j
            unfold splice at this
            rw[←List.append_assoc] at this
            simp only[List.getElem?_toArray]
            rw[this,n2]
            simp
           rw[hget]
           by_cases hj:off≤j∧j<off+k*sz
           ·rw[if_pos hj] at he ⊢
            cases hp:(qs.take (k*sz))[j-off]? with
            |none=>rw[hp] at he;cases he
            |some p =>
             rw[hp] at he
             injection he with he;subst he
             have hjl:j-off<news.length:=by rw[n2];omega
             obtain⟨k1,k2⟩:=n1.2 (j-off) p _ hp (List.getElem?_eq_getElem hjl)
             exact⟨_,List.getElem?_eq_getElem hjl,k2.oneCell k1,k2⟩
           ·rw[if_neg hj] at he ⊢
            exact hcells j e (by rw[←he];show(ps.map EV.pv)[j]? = _;rw[List.getElem?_map]))
          exact hk _ _ ⟨β,I,hrel.put (dstOk_spec hd) (Rd.int _ _)⟩
       ·cases hst
      ·cases hst
     ·cases hst
    ·cases hst
  ·cases hst
 ·cases hst
theorem src_of(hr:RelB Γ s a w β I){r m sz:Nat}{ey:EV}{v:Value}{qs:List PV}{ys:Option (List (List PV))}(hsrc:srcOf s.sto r ey=some (m,qs,ys))(g2:srcOb m sz qs ys)(hey:RE β (dom s.sto) I w ey v):Src w I v m qs∧qs.length=m*sz:=by
 unfold srcOf at hsrc
 split at hsrc
 ·rename_i r2 m2 sz2
  cases hq:Nat.beq r2 r with
  |true=>simp[hq] at hsrc
  |false =>
   simp only[hq,cond_false] at hsrc
   split at hsrc
   ·rename_i qs' hqs
    injection hsrc with hsrc;injection hsrc with e1 hsrc;injection hsrc with e2 e3
    subst e1;subst e2;subst e3
    have g2':qs'.length=m2*sz:=g2
    exact⟨src_row hey (hr.sto.1 r2 _ hqs).1 g2',g2'⟩
   ·cases hsrc
 ·rename_i ys'
  injection hsrc with hsrc;injection hsrc with e1 hsrc;injection hsrc with e2 e3
  subst e1;subst e2;subst e3
  exact⟨src_list hey g2,flat_len g2⟩
 ·cases hsrc
def stepApp(T:Tab)(n:Nat)(o:Oper)(h:Hint)(s:St):Option (St×List Prop):=stepAppG srcOf T n o h s
theorem stepApp_sound(hT:TOk P T)(hs:∀r,dom Γ.sin r→Γ.n≤r)(hr:Rel Γ s a w)(hst:stepApp T Γ.n o h s=some (s',ob))(hob:Alls ob){K:Act→World→Prop}{Q:Exit→Act→World→Prop}
  (hk:∀a' w',Rel Γ s' a' w'→K a' w'):o.wp P a w K Q:=stepAppG_sound (fun hr=>src_of hr) hT hs hr hst hob hk
def srcOf2:SrcF:=fun sto r e =>
 match e with
 |.row r2 off m sz2=>bif Nat.beq r2 r then none else match sto.get r2 with
  |some (.pure qs)=>some (m,(qs.drop off).take (m*sz2),none)
  |_=>none
 |.pv (.list ys)=>some (ys.length,ys.flatten,some ys)
 |_=>none
theorem src_part{r off m sz sz2:Nat}{v:Value}{L:Nat→Prop}{qs:List PV}(hv:RE β L I w (.row r off m sz2) v)(hb:RB β L I w r (qs.map EV.pv))(hl:((qs.drop off).take (m*sz2)).length=m*sz):Src w I v m ((qs.drop off).take (m*sz2)):=by
 obtain⟨_,⟨hn,rfl,rfl⟩|⟨b,c,hbr,rfl,_⟩⟩:=hv
 ·exact .inl ⟨none,0,rfl,rfl,by simp⟩
 ·obtain⟨arr,el,hg,hla,hc⟩:=hb.block hbr
  refine .inr ⟨b,off,c,(arr.toList.drop off).take ((qs.drop off).take (m*sz2)).length,rfl,fun j u hu => ?_,?_,fun j p u hp hu => ?_⟩
  ·rw[List.getElem?_take] at hu
   split at hu
   ·rw[List.getElem?_drop] at hu
    rw[cell_of_row w b (off+j) arr el (0,0) hg];simpa using hu
   ·cases hu
  ·have hq:qs.length≤arr.size:=by simpa using hla
   simp only[List.length_take,List.length_drop,Array.length_toList]
   omega
  ·rw[List.getElem?_take] at hp hu
   split at hu
   ·split at hp
    ·rw[List.getElem?_drop] at hp hu
     obtain⟨u',g1,g2,g3⟩:=hc (off+j) (.pv p) (by rw[List.getElem?_map,hp];rfl)
     have:u'=u:=by simpa[g1] using hu
     subst this
     exact⟨PV.one_of_cell g3 g2,g3⟩
    ·cases hp
   ·cases hu
theorem src_of2(hr:RelB Γ s a w β I){r m sz:Nat}{ey:EV}{v:Value}{qs:List PV}{ys:Option (List (List PV))}(hsrc:srcOf2 s.sto r ey=some (m,qs,ys))(g2:srcOb m sz qs ys)(hey:RE β (dom s.sto) I w ey v):Src w I v m qs∧qs.length=m*sz:=by
 unfold srcOf2 at hsrc
 split at hsrc
 ·rename_i r2 off m2 sz2
  cases hq:Nat.beq r2 r with
  |true=>simp[hq] at hsrc
  |false =>
   simp only[hq,cond_false] at hsrc
   split at hsrc
   ·rename_i qs' hqs
    injection hsrc with hsrc;injection hsrc with e1 hsrc;injection hsrc with e2 e3
    subst e1;subst e2;subst e3
    have g2':((qs'.drop off).take (m2*sz2)).length=m2*sz:=g2
    exact⟨src_part hey (hr.sto.1 r2 _ hqs).1 g2',g2'⟩
   ·cases hsrc
 ·rename_i ys'
  injection hsrc with hsrc;injection hsrc with e1 hsrc;injection hsrc with e2 e3
  subst e1;subst e2;subst e3
  exact⟨src_list hey g2,flat_len g2⟩
 ·cases hsrc
theorem Rel.cut(hr:Rel Γ s a w){r k:Nat}{ps:List PV}(hps:s.sto.get r=some (.pure ps)):Rel Γ ⟨s.env,Sto.set s.sto r (.pure (ps.take k))⟩ a w:=by
 obtain⟨β,I,hr⟩:=hr
 have hL:∀x,dom s.sto x→dom (Sto.set s.sto r (.pure (ps.take k))) x:=fun x hx=>dom_set.2 hx
 refine⟨β,I,fun t e he=>(hr.env t e he).mono (fun _ _=>rfl) hL (fun _ h=>h) (fun _ _ _=>rfl) (fun _ _ _ _=>rfl),⟨fun x sc hx => ?_,fun x y b hx hy=>hr.sto.2 x y b (dom_set.1 hx) (dom_set.1 hy)⟩,
  fun x hx=>hr.par x (dom_set.1 hx),fun x b hx=>hr.new x b (dom_set.1 hx),hr.ib,hr.ii,hr.keep,hr.size,hr.defers⟩
 have hx:(Sto.set s.sto r (.pure (ps.take k))).get x=some sc:=hx
 rw[Sto.get_set] at hx
 by_cases hxr:x=r∧r<999999
 ·obtain⟨rfl,hr9⟩:=hxr
  rw[if_pos ⟨rfl,hr9⟩,hps] at hx
  simp only[Option.map_some,Option.some.injEq] at hx
  subst hx
  obtain⟨k1,k2⟩:=hr.sto.1 x _ hps
  refine⟨?_,k2⟩
  rcases k1 with ⟨c1,c2⟩|⟨b,arr,el,c1,c2,c3⟩
  ·have c2:ps.map EV.pv=[]:=c2
   exact .inl ⟨c1,by show(ps.take k).map EV.pv=[];rw[List.map_take,c2];simp⟩
  ·refine .inr ⟨b,arr,el,c1,c2,fun i e he => ?_⟩
   have he:((ps.take k).map EV.pv)[i]? = some e:=he
   rw[List.map_take] at he
   have hlt:=(List.getElem?_eq_some_iff.1 he).1
   rw[List.length_take] at hlt
   rw[List.getElem?_take_of_lt (by omega)] at he
   obtain⟨u,d1,d2,d3⟩:=c3 i e he
   exact⟨u,d1,d2,d3.mono (fun _ _=>rfl) hL (fun _ h=>h) (fun _ _ _=>rfl) (fun _ _ _ _=>rfl)⟩
 ·rw[if_neg hxr] at hx
  obtain⟨k1,k2⟩:=hr.sto.1 x sc hx
  exact⟨k1.mono rfl (fun _ _=>rfl) (fun _ _=>rfl) hL (fun _ h=>h) (fun _ _ _=>rfl) (fun _ _ _ _=>rfl),k2⟩
end
end Go.Proofs.YtboilcfohmmpbaaGreatDoor.Sym
