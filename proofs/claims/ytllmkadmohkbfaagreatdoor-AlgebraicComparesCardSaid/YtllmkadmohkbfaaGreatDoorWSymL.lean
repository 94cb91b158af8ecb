/- Lemmas for the statements of this seat. -/
import Derived.Test.YtllmkadmohkbfaaGreatDoorWSymK
namespace Go.Proofs.YtllmkadmohkbfaaGreatDoor.Sym
open Go Go.RowKit
section
variable {P:Program} {T:qU} {Γ:Ctx} {s s':St} {a:Act} {w:World} {β:Nat→Option Nat} {I:Nat→Prop} {o:Oper} {h:Hint} {ob:List Prop}
theorem Gn{b sz:Nat} : ∀(ys:List (List PV)) (o:Nat) (f:Nat→Nat→Value),(∀row∈ys,row.length=sz) →
  (∀(i j:Nat) row x,ys[i]? = some row→row[j]? = some x→w.cell? ⟨b,o+(i*sz+j),none⟩=some (f i j)∧x.one=true∧Rd I w x (f i j)) →
  ∃us:List Value,(∀(j:Nat) u,us[j]? = some u→w.cell? ⟨b,o+j,none⟩=some u)∧eh I w ys.flatten us
 |[],o,f,_,_=>⟨[],fun j u h=>by simp at h,rfl,fun j c u h=>by simp at h⟩
 |row::ys,o,f,hl,h=>by
  have D1:row.length=sz:=hl row (by simp)
  obtain⟨us,h1,h2⟩:=Gn ys (o+sz) (fun i j=>f (i+1) j) (fun r hr=>hl r (by simp[hr])) (fun i j r x hi hj=>by
   have:=h (i+1) j r x (by simpa using hi) hj
   rw[show o+sz+(i*sz+j)=o+((i+1)*sz+j) from by rw[Nat.add_mul];omega]
   exact this)
  have Bb:∀(j:Nat),((List.range sz).map (f 0)++us)[j]? = if j<sz then some (f 0 j) else us[j-sz]? := by
   intro j
   rw[List.getElem?_append]
   simp only[List.length_map,List.length_range]
   by_cases hj:j<sz
   ·rw[if_pos hj,if_pos hj,List.getElem?_map,List.getElem?_range hj];rfl
   ·rw[if_neg hj,if_neg hj]
  refine⟨(List.range sz).map (f 0)++us,fun j u hu => ?_,by simp[D1];simpa using h2.1,fun j c u hc hu => ?_⟩
  ·rw[Bb] at hu
   by_cases hj:j<sz
   ·rw[if_pos hj] at hu
    injection hu with hu;subst hu
    have hx:row[j]? = some row[j]:=List.getElem?_eq_getElem (by omega)
    have:=(h 0 j row _ rfl hx).1
    simpa using this
   ·rw[if_neg hj] at hu
    have:=h1 _ u hu
    rw[show o+sz+(j-sz)=o+j from by omega] at this
    exact this
  ·rw[Bb] at hu
   rw[List.flatten_cons,List.getElem?_append] at hc
   by_cases hj:j<sz
   ·rw[if_pos hj] at hu
    rw[if_pos (by omega)] at hc
    injection hu with hu;subst hu
    exact(h 0 j row c rfl hc).2
   ·rw[if_neg hj] at hu
    rw[if_neg (by omega),D1] at hc
    exact h2.2 _ c u hc hu
theorem CJ{sz:Nat} : ∀{ys:List (List PV)},(∀row∈ys,row.length=sz)→ys.flatten.length=ys.length*sz
 |[],_=>by simp
 |row::ys,h=>by
  have:=CJ (sz:=sz) (ys:=ys) (fun r hr=>h r (by simp[hr]))
  have:=h row (by simp)
  simp only[List.flatten_cons,List.length_append,List.length_cons,Nat.succ_mul]
  omega
def Src(w:World)(I:Nat→Prop)(y:Value)(m:Nat)(qs:List PV):Prop :=
 (∃ao c,y = .slice ao 0 c∧m=0∧qs=[])∨∃b o c us,y = .slice (some ⟨b,o,none⟩) m c∧(∀(j:Nat) u,us[j]? = some u→w.cell? ⟨b,o+j,none⟩=some u)∧eh I w qs us
theorem Gp{ys:List (List PV)}{v:Value}{sz:Nat}(hv:Rd I w (.list ys) v)(hs:∀row∈ys,row.length=sz):Src w I v ys.length ys.flatten:=by
 cases hv with
 |nil ao c=>exact .inl ⟨ao,c,rfl,rfl,rfl⟩
 |list _ b o c s f hc hb WJ ho hh =>
  have rD:∀row∈ys,row.length=s:=fun row hr=>by
   obtain⟨i,hi⟩:=List.mem_iff_getElem?.1 hr
   exact WJ i row hi
  obtain⟨us,h1,h2⟩:=Gn (w:=w) (I:=I) (b:=b) (sz:=s) ys o f rD (fun i j row x hi hj=>⟨(ho i j row x hi hj).2,(ho i j row x hi hj).1,hh i j row x hi hj⟩)
  exact .inr ⟨b,o,c,us,rfl,h1,h2⟩
theorem NX{r m sz PM:Nat}{v:Value}{L:Nat→Prop}{qs:List PV}(hv:RE β L I w (.row r 0 m PM) v)(hb:RB β L I w r (qs.map EV.pv))(hl:qs.length=m*sz):Src w I v m qs:=by
 obtain⟨_,⟨hn,rfl,rfl⟩|⟨b,c,uI,rfl,_⟩⟩:=hv
 ·exact .inl ⟨none,0,rfl,rfl,List.eq_nil_of_length_eq_zero (by simpa using hl)⟩
 ·obtain⟨arr,el,hg,TQ,hc⟩:=hb.block uI
  refine .inr ⟨b,0,c,arr.toList.take qs.length,rfl,fun j u hu => ?_,by simp at TQ ⊢;omega,fun j p u hp hu => ?_⟩
  ·rw[List.getElem?_take] at hu
   split at hu
   ·rw[Nat.zero_add,cell_of_row w b j arr el (0,0) hg];simpa using hu
   ·cases hu
  ·rw[List.getElem?_take] at hu
   split at hu
   ·obtain⟨u',g1,g2,g3⟩:=hc j (.pv p) (by rw[List.getElem?_map,hp];rfl)
    have:u'=u:=by simpa[g1] using hu
    subst this
    exact⟨PV.wq g3 g2,g3⟩
   ·cases hu
theorem um{t e:TypeId}{de:TD}(hu:P.underlying t=some (.slice e))(hd:xy P e de)(ty:TypeId)(ao bo:Option Addr)(len cap c:Nat)(hc:len≤cap) :
  (Builtin.append_ #[t,t] ty #[.slice ao len cap,.slice bo 0 c]).run P w = .ok (.slice ao len cap) w:=by
 cases ao<;>cases bo<;>simp[Builtin.append_,run_underlying hu,hd.run_sizeOf w,Builtin.lenOf,Builtin.firstCells,hc,loadCells,loadCellsFrom,storeCells]
theorem zR{β':Nat→Option Nat}{L':Nat→Prop}{d b:Nat}{ps:List PV}{arr:Array Value}{el:TypeId}(hg:w.heap[b]? = some (.cells arr el (0,0)))
  (hc:∀(j:Nat) p,ps[j]? = some p→∃u,arr[j]? = some u∧u.oneCell'=true∧Rd I w p u) (hb:β' d=some b):RB β' L' I w d (ps.map EV.pv):=by
 refine .inr ⟨b,arr,el,hb,hg,fun j e he => ?_⟩
 rw[List.getElem?_map] at he
 cases hj:ps[j]? with
 |none=>simp[hj] at he
 |some p =>
  simp[hj] at he
  subst he
  exact hc j p hj
theorem BD{r b:Nat}{L:Nat→Prop}{ps:List PV}(h:RB β L I w r (ps.map EV.pv))(hb:β r=some b) :
  ∃arr el,w.heap[b]? = some (.cells arr el (0,0))∧ps.length≤arr.size∧∀(j:Nat) p,ps[j]? = some p→∃u,arr[j]? = some u∧u.oneCell'=true∧Rd I w p u:=by
 obtain⟨arr,el,h1,h2,h3⟩:=h.block hb
 refine⟨arr,el,h1,by simpa using h2,fun j p hp=>h3 j (.pv p) (by rw[List.getElem?_map,hp];rfl)⟩
theorem CK(r:Nat)(hr:r<999999)(sc:SC):∀(s:cq),iB r (cq.Mz s r sc)=iB r s
 |[]=>rfl
 |(r',c)::s=>by
  have jn:Nat.blt r 999999=true:=Nat.ble_eq_true_of_le hr
  simp only[cq.Mz]
  cases hb:Nat.beq r' r with
  |true=>simp[iB,hb,jn]
  |false=>simp[iB,hb,CK r hr sc s]
theorem EJ(r:Nat)(sc:SC)(s:cq):iB r (cq.set s r sc)=iB r s:=by
 unfold cq.set
 by_cases hr:r<999999
 ·rw[show Nat.blt r 999999=true from Nat.ble_eq_true_of_le hr]
  exact CK r hr sc s
 ·rw[show Nat.blt r 999999=false from Bool.eq_false_iff.2 (fun h=>hr (Nat.le_of_ble_eq_true h))]
  rfl
theorem rM(hr:iA Γ s a w β I){r d len sz:Nat}{out:List PV}{v:Value}(Bn:d<Γ.n)(CL:¬ee Γ.sin d)(CM:¬ee (iB r s.bp) d){ob:Option Nat}
  (hb:∀b,ob=some b→b<w.heap.size∧¬I b∧Γ.Nw b∧∀x,ee (iB r s.bp) x→β x≠some b)
  (NV:RB (fun x=>if x=d then ob else β x) (fun x=>ee (iB r s.bp) x∨x=d) I w d (out.map EV.pv))
  (hv:(ob=none∧len=0∧v = .slice none 0 0)∨∃b c,ob=some b∧v = .slice (some ⟨b,0,none⟩) len c∧len≤c∧∃el n,w.shape? b=some (el,n)∧0+c*sz≤n) :
  Rel Γ ⟨u6 (kill r s).env (some d) (.row d 0 len sz),(d,.pure out)::(kill r s).bp⟩ (a.put (some d) v) w:=by
 have h1:=hr.kill r
 have zG:d<999999:=Nat.lt_of_lt_of_le Bn Γ.small
 have h2:=h1.site (d:=d) (sc := .pure out) zG CM CL (β':=fun x=>if x=d then ob else β x) (fun x hx=>if_neg hx) (fun b kI=>hb b (by simpa using kI)) NV
 refine⟨_,_,h2.put (dst:=some d) (fun d' TP=>by injection TP with TP;rw[←TP];exact Bn) ⟨(jf zG).2 (.inl rfl),?_⟩⟩
 simpa using hv
theorem BE{t e Gq:TypeId}{i:TypeInfo}(ht:P.underlying t=some (.slice e))(hi:P.info? e=some i)(ty:TypeId)
  (g rE Be:Nat) (cur:Array Value) (hg:w.heap[g]? = some (.cells cur Gq (0,0)))
  (ad:Addr) (m c:Nat) (news:List Value) (hl:news.length=m*i.size) (Qh:∀j u,news[j]? = some u→w.cell? (ad.add j)=some u) (h1:∀u∈news,u.oneCell'=true)
  (zS:rE+m≤Be) (yn:rE*i.size+news.length≤cur.size) :
  (Builtin.append_ #[t,t] ty #[.slice (some ⟨g,0,none⟩) rE Be,.slice (some ad) m c]).run P w =
   .ok (.slice (some ⟨g,0,none⟩) (rE+m) Be) (w.setRow g (cur.toList.take (rE*i.size)++news++cur.toList.drop (rE*i.size+news.length)).toArray):=by
 have hf:=run_firstCells_some (P:=P) w i.size m ad m c news hl Qh
 have bz:=run_storeCells_at P g (rE*i.size) Gq news 0 cur w hg (by simpa using yn) h1
 simp only[Nat.add_zero] at bz
 simp[Builtin.append_,run_underlying ht,sizeOf,typeInfo,hi,Builtin.lenOf,zS,hf,Addr.add_lit,bz]
def KR(bp:cq)(r:Nat)(e:EV):Option (Nat×List PV×Option (List (List PV))) :=
 match e with
 |.row r2 0 m _=>bif Nat.beq r2 r then none else match bp.get r2 with
  |some (.pure qs)=>some (m,qs,none)
  |_=>none
 |.pv (.list ys)=>some (ys.length,ys.flatten,some ys)
 |_=>none
def KS(m sz:Nat)(qs:List PV):Option (List (List PV))→Prop
 |none=>qs.length=m*sz
 |some ys=>∀row∈ys,row.length=sz
abbrev Uz:=cq→Nat→EV→Option (Nat×List PV×Option (List (List PV)))
def CN(src:Uz)(T:qU)(n:Nat)(o:Oper)(h:Hint)(s:St):Option (St×List Prop) :=
 match o.op,o.dst,h with
 |.call c,some d,.app Bf out=>match c.callee,c.args.toList,c.argTypes.toList with
  |.builtin .append,[x,y],[t1,t2]=>bif Nat.beq t1 t2&&Nat.blt d n then
    match T.get t1 with
    |some dt=>match dt.kind with
     |.slice el=>match T.get el,iq s.env x,iq s.env y with
      |some de,some (.row r 0 len sz),some ey=>match s.bp.get r,src s.bp r ey,(kill r s).bp.get d with
       |some (.pure ps),some (m,qs,ys),none=>bif Nat.beq sz de.size&&Nat.ble 1 sz&&Nat.blt r n then
         some (⟨u6 (kill r s).env (some d) (.row d 0 Bf sz),(d,.pure out)::(kill r s).bp⟩,
          [ps.length=len*sz,KS m sz qs ys,len+m=Bf,ps++qs=out,Bf*de.bytes≤140737488355328,Bf<9223372036854775808])
        else none
       |_,_,_=>none
      |_,_,_=>none
     |_=>none
    |none=>none
   else none
  |_,_,_=>none
 |_,_,_=>none
theorem zT{src:Uz}(HS:∀{β:Nat→Option Nat} {I:Nat→Prop},iA Γ s a w β I→∀{r m sz:Nat} {ey:EV} {v:Value} {qs:List PV} {ys:Option (List (List PV))},src s.bp r ey=some (m,qs,ys)→KS m sz qs ys→RE β (ee s.bp) I w ey v→Src w I v m qs∧qs.length=m*sz)(hT:uj P T)(hs:∀r,ee Γ.sin r→Γ.n≤r)(hr:Rel Γ s a w)(bz:CN src T Γ.n o h s=some (s',ob))(fK:je ob){K:Act→World→Prop}{Q:Exit→Act→World→Prop}
  (hk:∀a' w',Rel Γ s' a' w'→K a' w'):o.wp P a w K Q:=by
 obtain⟨β,I,hr⟩:=hr
 unfold CN at bz
 split at bz
 ·rename_i c d Bf out Bc KQ
  split at bz
  ·rename_i x y t1 t2 zv oc Mv
   cases mO:(Nat.beq t1 t2&&Nat.blt d Γ.n) with
   |false=>simp[mO] at bz
   |true =>
    simp only[mO,cond_true] at bz
    simp only[Bool.and_eq_true] at mO
    have j8:t1=t2:=Nat.eq_of_beq_eq_true mO.1
    have Bn:d<Γ.n:=Nat.le_of_ble_eq_true mO.2
    subst j8
    split at bz
    ·rename_i dt UA
     split at bz
     ·rename_i el JB
      obtain⟨un,hu,_,hf⟩:=(hT t1 dt UA).under
      rw[JB] at hf
      have hf:un = .slice el:=hf
      subst hf
      split at bz
      ·rename_i de r len sz ey u5 hx hy
       split at bz
       ·rename_i ps m qs ys uR kg Bm
        cases ye:(Nat.beq sz de.size&&Nat.ble 1 sz&&Nat.blt r Γ.n) with
        |false=>simp[ye] at bz
        |true =>
         simp only[ye,cond_true] at bz
         simp only[Bool.and_eq_true] at ye
         have rD:sz=de.size:=Nat.eq_of_beq_eq_true ye.1.1
         have WL:1≤sz:=Nat.le_of_ble_eq_true ye.1.2
         have SE:r<Γ.n:=Nat.le_of_ble_eq_true ye.2
         injection bz with bz;injection bz with h1 h2
         subst h1;subst h2
         obtain⟨g1,fK⟩:=fK.cons
         obtain⟨g2,fK⟩:=fK.cons
         obtain⟨g3,fK⟩:=fK.cons
         obtain⟨g4,fK⟩:=fK.cons
         obtain⟨g5,g6⟩:=fK.cons
         have g6:Bf<9223372036854775808:=g6
         subst g3;subst g4
         obtain⟨i,hi,ql,Kt,z,hz,_,Mm,_⟩:=(hT el de u5).info
         have hex:=hr.Ih x _ hx
         have NW:=hr.Ih y _ hy
         obtain⟨DW,D1⟩:=hex
         have NV:=(hr.bp.1 r _ uR).1
         have UB:¬ee Γ.sin r:=fun h=>by have:=hs r h;omega
         have CL:¬ee Γ.sin d:=fun h=>absurd (hs d h) (Nat.not_le_of_lt Bn)
         have CM:¬ee (kill r s).bp d:=by unfold ee;rw[Bm];simp
         have WN:Src w I (a.eval y) m qs∧qs.length=m*sz:=HS hr kg g2 NW
         obtain⟨Qi,D2⟩:=WN
         have PN:∀v' w',(Builtin.append_ #[t1,t1] o.type #[a.eval x,a.eval y]).run P w = .ok v' w'→Rel Γ ⟨u6 (kill r s).env (some d) (.row d 0 (len+m) sz),(d,.pure (ps++qs))::(kill r s).bp⟩ (a.put (some d) v') w'→o.wp P a w K Q:=by
          intro v' w' aH qp
          have sS:=Fq oc
          have CG:=Fq Mv
          obtain⟨cl,args,Qe⟩:=c
          simp only at zv sS CG
          subst zv;subst sS;subst CG
          unfold Oper.wp execOp
          simp only[Bc,resolve,invoke,builtin,Sem.run_bind,Sem.run_pure,Result.andThen_ok,List.map_toArray,List.map_cons,List.map_nil,aH]
          show K (a.put o.dst v') w'
          rw[KQ]
          exact hk _ _ qp
         have Gr:(len+m)*i.bytes≤140737488355328:=by rw[Kt];exact g5
         have O6:len+m≤maxLen:=by unfold maxLen;omega
         have WQ:∀b,β r=some b→∀x,ee (iB r s.bp) x→β x≠some b:=fun b hb x hx e =>
          (kd.1 hx).2 (hr.bp.2 x r b (kd.1 hx).1 DW e hb)
         rcases D1 with ⟨TN,KJ,H7⟩|⟨b,cap,uI,H7,Su,elx,nx,IP,yn⟩
         ·
          subst KJ
          have Qj:ps=[]:=List.eq_nil_of_length_eq_zero (by simpa using g1)
          subst Qj
          rcases Qi with ⟨ao,c2,DT,rfl,rfl⟩|⟨b2,o2,c2,us,DT,Jw,A9⟩
          ·refine PN _ _ (by rw[H7,DT];exact um hu (hT el de u5) _ none ao 0 0 c2 (Nat.le_refl _)) ?_
           exact rM hr (ob:=none) Bn CL CM (fun b hb=>by cases hb) (.inl ⟨by simp,rfl⟩) (.inl ⟨rfl,rfl,rfl⟩)
          ·have DU:us.length=m*i.size:=by rw[←A9.1,ql,←rD];exact D2
           have SF:∀(j:Nat) u,us[j]? = some u→w.cell? ((⟨b2,o2,none⟩:Addr).add j)=some u:=fun j u Qd=>by rw[n9];exact Jw j u Qd
           rcases Nat.eq_zero_or_pos m with Mb|Mb
           ·subst Mb
            have sL:qs=[]:=List.eq_nil_of_length_eq_zero (by simpa using D2)
            subst sL
            refine PN _ _ (by rw[H7,DT];exact um hu (hT el de u5) _ none _ 0 0 c2 (Nat.le_refl _)) ?_
            exact rM hr (ob:=none) Bn CL CM (fun b hb=>by cases hb) (.inl ⟨by simp,rfl⟩) (.inl ⟨rfl,rfl,rfl⟩)
           ·have aH:=run_append_nil (P:=P) w t1 o.type el i z hu hi hz ⟨b2,o2,none⟩ m c2 us DU SF Mb (by omega) (by simp only[Nat.zero_add] at Gr;omega)
            refine PN _ _ (by rw[H7,DT];exact aH) ?_
            have Gs:iA Γ s a (w.drew.alloc (.cells (us.toArray++Builtin.zeroCells z.cells (grownCap w m 0 el-m)) el)) β I :=
             hr.grow (((Ib.refl _ _).drew).alloc (Nat.le_refl _) _) (fun b h=>h) (fun b h => .inl h)
            have xA:(w.drew.alloc (.cells (us.toArray++Builtin.zeroCells z.cells (grownCap w m 0 el-m)) el)).heap[w.heap.size]? = some (.cells (us.toArray++Builtin.zeroCells z.cells (grownCap w m 0 el-m)) el (0,0)):=heap_alloc_new w.drew _
            have Ik:=grownCap_ge w m 0 el
            have u9:∀(j:Nat) p,(([]:List PV)++qs)[j]? = some p→∃u,(us.toArray++Builtin.zeroCells z.cells (grownCap w m 0 el-m))[j]? = some u∧u.oneCell'=true∧Rd I (w.drew.alloc (.cells (us.toArray++Builtin.zeroCells z.cells (grownCap w m 0 el-m)) el)) p u:=by
             intro j p hp
             simp only[List.nil_append] at hp
             have hj:j<us.length:=by rw[←A9.1];exact(List.getElem?_eq_some_iff.1 hp).1
             obtain⟨q1,q2⟩:=A9.2 j p us[j] hp (List.getElem?_eq_getElem hj)
             refine⟨us[j],by rw[Array.getElem?_append_left (by simpa using hj)];simp[hj],q2.rI q1,q2.mono (fun _ h=>h) (fun b o hI=>mN (Below.heap_alloc w.drew _ b (hr.ib b hI)) o)⟩
            refine rM Gs (ob:=some w.heap.size) Bn CL CM (fun b hb => ?_) (zR xA u9 (by simp)) (.inr ⟨w.heap.size,grownCap w m 0 el,rfl,by simp,by simpa using Ik,el,_,by unfold World.shape?;rw[xA],?_⟩)
            ·injection hb with hb;subst hb
             exact⟨by simp,fun hI=>Nat.lt_irrefl _ (hr.ib _ hI),(.inl hr.aP.size),fun x hx e=>Nat.lt_irrefl _ (hr.lb x _ (kd.1 hx).1 e)⟩
            ·simp only[Array.size_append,List.size_toArray,DU,size_zeroCells,Mm,ql,rD]
             rw[←Nat.add_mul]
             have:m+(grownCap w m 0 el-m)=grownCap w m 0 el:=by omega
             rw[this];omega
         ·
          have yf:Γ.Nw b:=hr.new r b DW (.inl UB) uI
          have O5:=((hr.bp.1 r _ uR).2 b uI)
          obtain⟨arr,Gq,hg,Gd,Gg⟩:=BD NV uI
          have UC:w.shape? b=some (Gq,arr.size):=by unfold World.shape?;rw[hg]
          have Jy:nx=arr.size:=by
           rw[UC] at IP;injection IP with IP;injection IP with h1 h2;exact h2.symm
          subst Jy
          rcases Nat.eq_zero_or_pos m with Mb|Mb
          ·have DT:∃bo c2,a.eval y = .slice bo 0 c2:=by
            rcases Qi with ⟨ao,c2,DT,_⟩|⟨b2,o2,c2,us,DT,_⟩
            ·exact⟨_,_,DT⟩
            ·exact⟨_,_,by rw[DT,Mb]⟩
           obtain⟨bo,c2,DT⟩:=DT
           subst Mb
           have sL:qs=[]:=List.eq_nil_of_length_eq_zero (by simpa using D2)
           subst sL
           refine PN _ _ (by rw[H7,DT];exact um hu (hT el de u5) _ _ _ len cap c2 Su) ?_
           exact rM hr (ob:=some b) Bn CL CM (fun b' kI=>by injection kI with kI;subst kI;exact⟨O5.1,O5.2,yf,WQ b uI⟩)
            (zR hg (fun j p hp=>Gg j p (by simpa using hp)) (by simp)) (.inr ⟨b,cap,rfl,rfl,Su,Gq,_,UC,yn⟩)
          ·rcases Qi with ⟨_,_,_,hm,_⟩|⟨b2,o2,c2,us,DT,Jw,A9⟩
           ·omega
           have DU:us.length=m*i.size:=by rw[←A9.1,ql,←rD];exact D2
           have SF:∀(j:Nat) u,us[j]? = some u→w.cell? ((⟨b2,o2,none⟩:Addr).add j)=some u:=fun j u Qd=>by rw[n9];exact Jw j u Qd
           have UD:∀u∈us,u.oneCell'=true:=fun u Qd=>by
            obtain⟨j,hj⟩:=List.mem_iff_getElem?.1 Qd
            have Sa:j<qs.length:=by rw[A9.1];exact(List.getElem?_eq_some_iff.1 hj).1
            obtain⟨q1,q2⟩:=A9.2 j _ u (List.getElem?_eq_getElem Sa) hj
            exact q2.rI q1
           have UE:len*i.size=ps.length:=by rw[ql,←rD];exact g1.symm
           have YQ:cap*sz≤arr.size:=by omega
           by_cases zS:len+m≤cap
           ·have Qk:len*i.size+us.length≤arr.size:=by
             have h3:(len+m)*sz≤cap*sz:=Nat.mul_le_mul_right _ zS
             rw[Nat.add_mul] at h3
             rw[DU,ql,←rD];omega
            have aH:=BE (P:=P) hu hi o.type b len cap arr hg ⟨b2,o2,none⟩ m c2 us DU SF UD zS Qk
            refine PN _ _ (by rw[H7,DT];exact aH) ?_
            have Ql:(arr.toList.take (len*i.size)++us++arr.toList.drop (len*i.size+us.length)).toArray.size=arr.size:=by
             simp;omega
            have Bb:∀j,(arr.toList.take (len*i.size)++us++arr.toList.drop (len*i.size+us.length)).toArray[j]? = if len*i.size≤j∧j<len*i.size+us.length then us[j-len*i.size]? else arr[j]? := by
             intro j
             have:=qY arr.toList (len*i.size) us (by simp;omega) j
             unfold j7 at this
             rw[←List.append_assoc] at this
             simp only[List.getElem?_toArray]
             rw[this]
             simp only[Array.getElem?_toList]
            have KT:∀(j:Nat) p,(ps++qs)[j]? = some p→∃u,(arr.toList.take (len*i.size)++us++arr.toList.drop (len*i.size+us.length)).toArray[j]? = some u∧u.oneCell'=true∧Rd I w p u:=by
             intro j p hp
             rw[Bb j]
             rw[List.getElem?_append] at hp
             by_cases hj:j<ps.length
             ·rw[if_pos hj] at hp
              rw[if_neg (by omega)]
              exact Gg j p hp
             ·rw[if_neg hj] at hp
              have UF:=(List.getElem?_eq_some_iff.1 hp).1
              have Qm:j-ps.length<us.length:=by rw[←A9.1];exact UF
              rw[if_pos (by omega),UE]
              obtain⟨q1,q2⟩:=A9.2 _ p us[j-ps.length] hp (List.getElem?_eq_getElem Qm)
              exact⟨_,List.getElem?_eq_getElem Qm,q2.rI q1,q2⟩
            have YR:=hr.write (sc' := .pure (ps++qs)) (Nat.lt_of_lt_of_le SE Γ.small) uR uI hg Ql (fun j e' mJ=>by
             simp only[SC.zw,List.getElem?_map] at mJ
             cases hp:(ps++qs)[j]? with
             |none=>simp[hp] at mJ
             |some p =>
              simp[hp] at mJ
              subst mJ
              exact KT j p hp)
            have MA:iB r (cq.set s.bp r (.pure (ps++qs)))=iB r s.bp:=EJ r _ s.bp
            have UG:kill r ⟨s.env,cq.set s.bp r (.pure (ps++qs))⟩=kill r s:=by unfold kill;simp only[MA]
            have Qn:=rM YR (r:=r) (d:=d) (len:=len+m) (sz:=sz) (out:=ps++qs) (v := .slice (some ⟨b,0,none⟩) (len+m) cap) (ob:=some b) Bn CL (by rw[MA];exact CM)
             (fun b' kI=>by
              injection kI with kI;subst kI
              rw[MA]
              exact⟨by simpa[World.setRow] using O5.1,O5.2,yf,WQ b uI⟩)
             (zR (setRow_heap w b arr _ Gq (0,0) hg) (fun j p hp=>by
              obtain⟨u,q1,q2,q3⟩:=KT j p hp
              exact⟨u,q1,q2,q3.mono (fun _ h=>h) (fun b' o' hI=>mN (setRow_other w b b' _ (fun e=>O5.2 (e ▸ hI))) o')⟩) (by simp))
             (.inr ⟨b,cap,rfl,rfl,zS,Gq,arr.size,by rw[yq w b b _ arr Gq (0,0) hg Ql];exact UC,yn⟩)
            rw[UG] at Qn
            exact Qn
           ·have Qo:(arr.toList.take ps.length).length=len*i.size:=by simp;omega
            have holds:∀(j:Nat) v,(arr.toList.take ps.length)[j]? = some v→w.cell? ((⟨b,0,none⟩:Addr).add j)=some v:=by
             intro j v hv
             rw[n9,Nat.zero_add,cell_of_row w b j arr Gq (0,0) hg]
             rw[List.getElem?_take] at hv
             split at hv
             ·simpa using hv
             ·cases hv
            have aH:=run_append_grow (P:=P) w t1 o.type el i z hu hi hz ⟨b,0,none⟩ len cap (arr.toList.take ps.length) Qo holds ⟨b2,o2,none⟩ m c2 us DU SF (by omega) (by omega) (growslice_fits (by omega) Gr)
            refine PN _ _ (by rw[H7,DT];exact aH) ?_
            generalize hW:((arr.toList.take ps.length).toArray++us.toArray++Builtin.zeroCells z.cells (grownCap w (len+m) cap el-(len+m)):Array Value)=narr
            have Gs:iA Γ s a (w.drew.alloc (.cells narr el)) β I :=
             hr.grow (((Ib.refl _ _).drew).alloc (Nat.le_refl _) _) (fun b h=>h) (fun b h => .inl h)
            have xA:(w.drew.alloc (.cells narr el)).heap[w.heap.size]? = some (.cells narr el (0,0)):=heap_alloc_new w.drew _
            have Ik:=grownCap_ge w (len+m) cap el
            have IS:∀{p:PV} {u:Value},Rd I w p u→Rd I (w.drew.alloc (.cells narr el)) p u:=fun h=>h.mono (fun _ h=>h) (fun b o hI=>mN (Below.heap_alloc w.drew _ b (hr.ib b hI)) o)
            have u9:∀(j:Nat) p,(ps++qs)[j]? = some p→∃u,narr[j]? = some u∧u.oneCell'=true∧Rd I (w.drew.alloc (.cells narr el)) p u:=by
             intro j p hp
             have o9:(arr.toList.take ps.length).length=ps.length:=by simp;omega
             have Qp:narr[j]? = if j<ps.length then arr[j]? else if j<ps.length+us.length then us[j-ps.length]? else (Builtin.zeroCells z.cells (grownCap w (len+m) cap el-(len+m)))[j-(ps.length+us.length)]? := by
              rw[←hW,Array.getElem?_append,Array.getElem?_append]
              simp only[Array.size_append,List.size_toArray,o9,List.getElem?_toArray]
              by_cases hj:j<ps.length
              ·rw[if_pos (by omega),if_pos hj,if_pos hj,List.getElem?_take,if_pos hj];simp
              ·by_cases Fs:j<ps.length+us.length
               ·rw[if_pos Fs,if_neg hj,if_neg hj,if_pos Fs]
               ·rw[if_neg Fs,if_neg hj,if_neg Fs]
             rw[Qp]
             rw[List.getElem?_append] at hp
             by_cases hj:j<ps.length
             ·rw[if_pos hj] at hp ⊢
              obtain⟨u,q1,q2,q3⟩:=Gg j p hp
              exact⟨u,q1,q2,IS q3⟩
             ·rw[if_neg hj] at hp ⊢
              have UF:=(List.getElem?_eq_some_iff.1 hp).1
              have Qm:j-ps.length<us.length:=by rw[←A9.1];exact UF
              rw[if_pos (by omega)]
              obtain⟨q1,q2⟩:=A9.2 _ p us[j-ps.length] hp (List.getElem?_eq_getElem Qm)
              exact⟨_,List.getElem?_eq_getElem Qm,q2.rI q1,IS q2⟩
            refine rM Gs (ob:=some w.heap.size) Bn CL CM (fun b' kI => ?_) (zR xA u9 (by simp)) (.inr ⟨w.heap.size,grownCap w (len+m) cap el,rfl,rfl,Ik,el,_,by unfold World.shape?;rw[xA],?_⟩)
            ·injection kI with kI;subst kI
             exact⟨by simp,fun hI=>Nat.lt_irrefl _ (hr.ib _ hI),(.inl hr.aP.size),fun x hx e=>Nat.lt_irrefl _ (hr.lb x _ (kd.1 hx).1 e)⟩
            ·rw[←hW]
             simp only[Array.size_append,List.size_toArray,Qo,DU,size_zeroCells,Mm,ql,rD]
             rw[←Nat.add_mul,←Nat.add_mul]
             have:len+m+(grownCap w (len+m) cap el-(len+m))=grownCap w (len+m) cap el:=by omega
             rw[this];omega
       ·cases bz
      ·cases bz
     ·cases bz
    ·cases bz
  ·cases bz
 ·cases bz
theorem IT{w:World}{I:Nat→Prop}{y:Value}{m sz:Nat}{qs:List PV}(kg:Src w I y m qs)(hl:qs.length=m*sz)(k:Nat)(hk:k≤m) :
  ∃news,eh I w (qs.take (k*sz)) news∧news.length=k*sz∧(∀(P:Program),(Builtin.firstCells sz k y).run P w = .ok news.toArray w)∧∀(P:Program),(Builtin.lenOf y).run P w = .ok m w:=by
 rcases kg with ⟨ao,c,rfl,rfl,rfl⟩|⟨b,o,c,us,rfl,h1,h2⟩
 ·have:k=0:=by omega
  subst this
  refine⟨[],⟨by simp,fun j p u h=>by simp at h⟩,by simp,fun P => ?_,fun P=>rfl⟩
  cases ao with
  |none=>rfl
  |some a=>simp[Builtin.firstCells,loadCells,loadCellsFrom]
 ·have hlu:us.length=m*sz:=by rw[←h2.1];exact hl
  have hkm:k*sz≤m*sz:=Nat.mul_le_mul_right _ hk
  refine⟨us.take (k*sz),⟨by simp;omega,fun j p u hp hu => ?_⟩,by simp;omega,fun P => ?_,fun P=>rfl⟩
  ·rw[List.getElem?_take] at hp hu
   split at hp
   ·rename_i hj
    rw[if_pos hj] at hu
    exact h2.2 j p u hp hu
   ·cases hp
  ·have:=run_loadCells_list (P:=P) w ⟨b,o,none⟩ (us.take (k*sz)) (fun j v hv=>by
    rw[List.getElem?_take] at hv
    split at hv
    ·rw[Addr.add_lit];exact h1 j v hv
    ·cases hv)
   rw[List.length_take,Nat.min_eq_left (by omega)] at this
   simpa[Builtin.firstCells] using this
theorem JC{dT sT ty e:TypeId}{i:TypeInfo}(hu:P.underlying dT=some (.slice e))(hi:P.info? e=some i)(g off UH YS:Nat){cur:Array Value}{Gq:TypeId}(hg:w.heap[g]? = some (.cells cur Gq (0,0))){y:Value}{m k:Nat}{qs:List PV}
  (kg:Src w I y m qs) (hl:qs.length=m*i.size) (hk:min m UH=k) (yn:off+k*i.size≤cur.size) :
  ∃news,eh I w (qs.take (k*i.size)) news∧news.length=k*i.size ∧
   (Builtin.copy_ #[dT,sT] ty #[.slice (some ⟨g,off,none⟩) UH YS,y]).run P w = .ok (goInt k) (w.setRow g (cur.toList.take off++news++cur.toList.drop (off+news.length)).toArray):=by
 obtain⟨news,h1,h2,h3,h4⟩:=IT kg hl k (by omega)
 refine⟨news,h1,h2,?_⟩
 have bz:=run_storeCells_at P g off Gq news 0 cur w hg (by simp;omega) (fun v hv=>by
  obtain⟨j,hj⟩:=List.mem_iff_getElem?.1 hv
  have Sa:j<(qs.take (k*i.size)).length:=by rw[h1.1];exact(List.getElem?_eq_some_iff.1 hj).1
  obtain⟨k1,k2⟩:=h1.2 j _ v (List.getElem?_eq_getElem Sa) hj
  exact k2.rI k1)
 simp only[Nat.add_zero] at bz
 have Qq:Nat.min m UH=k:=hk
 simp[Builtin.copy_,run_underlying hu,sizeOf,typeInfo,hi,h4 P,Qq,h3 P,bz]
def Gt(T:qU)(n:Nat)(o:Oper)(h:Hint)(s:St):Option (St×List Prop) :=
 match o.op,h with
 |.call c,.app k out=>match c.callee,c.args.toList,c.argTypes.toList with
  |.builtin .copy,[x,y],[t1,_]=>bif ry n o.dst then
    match T.get t1 with
    |some dt=>match dt.kind with
     |.slice el=>match T.get el,iq s.env x,iq s.env y with
      |some de,some (.row r off len sz),some ey=>match s.bp.get r,KR s.bp r ey with
       |some (.pure ps),some (m,qs,ys)=>bif Nat.beq sz de.size&&Nat.blt r 999999 then
         some (⟨u6 s.env o.dst (.pv (.int .i64 (k:Int))),cq.set s.bp r (.pure out)⟩,
          [KS m sz qs ys,min m len=k,off+k*sz≤ps.length,j7 ps off (qs.take (k*sz))=out])
        else none
       |_,_=>none
      |_,_,_=>none
     |_=>none
    |none=>none
   else none
  |_,_,_=>none
 |_,_=>none
theorem Gu(hT:uj P T)(hr:Rel Γ s a w)(bz:Gt T Γ.n o h s=some (s',ob))(fK:je ob){K:Act→World→Prop}{Q:Exit→Act→World→Prop}
  (hk:∀a' w',Rel Γ s' a' w'→K a' w'):o.wp P a w K Q:=by
 obtain⟨β,I,hr⟩:=hr
 unfold Gt at bz
 split at bz
 ·rename_i c k out Bc
  split at bz
  ·rename_i x y t1 t2 zv oc Mv
   cases hd:ry Γ.n o.dst with
   |false=>simp[hd] at bz
   |true =>
    simp only[hd,cond_true] at bz
    split at bz
    ·rename_i dt UA
     split at bz
     ·rename_i el JB
      obtain⟨un,hu,_,hf⟩:=(hT t1 dt UA).under
      rw[JB] at hf
      have hf:un = .slice el:=hf
      subst hf
      split at bz
      ·rename_i de r off len sz ey u5 hx hy
       split at bz
       ·rename_i ps m qs ys uR kg
        cases hb20:(Nat.beq sz de.size&&Nat.blt r 999999) with
        |false=>simp[hb20] at bz
        |true =>
         simp only[hb20,cond_true] at bz
         rw[Bool.and_eq_true] at hb20
         have ye:=hb20.1
         have Qg:r<999999:=Nat.le_of_ble_eq_true hb20.2
         have rD:sz=de.size:=Nat.eq_of_beq_eq_true ye
         injection bz with bz;injection bz with h1 h2
         subst h1;subst h2
         obtain⟨g1,fK⟩:=fK.cons
         obtain⟨g2,fK⟩:=fK.cons
         obtain⟨g3,g4⟩:=fK.cons
         have g4:j7 ps off (qs.take (k*sz))=out:=g4
         obtain⟨i,hi,X7,_,_⟩:=(hT el de u5).info
         obtain⟨cl,args,Qe⟩:=c
         have zv:cl = .builtin .copy:=zv
         subst zv
         have sS:args = #[x,y]:=Fq oc
         have CG:Qe = #[t1,t2]:=Fq Mv
         subst sS;subst CG
         have hS:Src w I (a.eval y) m qs∧qs.length=m*sz:=by
          have hyv:=hr.Ih y _ hy
          unfold KR at kg
          split at kg
          ·rename_i r2 m2 PM
           cases uI:Nat.beq r2 r with
           |true=>simp[uI] at kg
           |false =>
            simp only[uI,cond_false] at kg
            split at kg
            ·rename_i qs2 Mc
             injection kg with kg;injection kg with e1 e2;injection e2 with e2 e3
             subst e1;subst e2;subst e3
             have g1:qs2.length=m2*sz:=g1
             exact⟨NX hyv ((hr.bp.1 r2 _ Mc).1) g1,g1⟩
            ·cases kg
          ·rename_i ys2
           injection kg with kg;injection kg with e1 e2;injection e2 with e2 e3
           subst e1;subst e2;subst e3
           have g1:∀row∈ys2,row.length=sz:=g1
           exact⟨Gp hyv g1,CJ g1⟩
          ·cases kg
         obtain⟨DW,hv⟩:=hr.Ih x _ hx
         have Qr:∀v w',(Builtin.copy_ #[t1,t2] o.type #[a.eval x,a.eval y]).run P w = .ok v w'→(execOp a.eval o).run P w = .ok (.value v) w':=by
          intro v w' aH
          simp[execOp,Bc,resolve,invoke,builtin,aH]
         rcases hv with ⟨TN,KJ,hv⟩|⟨b,cap,hb,hv,hc,abQ,nn,IP,YG⟩
         ·
          subst KJ
          have UI:k=0:=by rw[←g2];exact Nat.min_zero m
          subst UI
          have Qj:ps=[]:=by
           rcases(hr.bp.1 r _ uR).1 with ⟨_,h2⟩|⟨b,arr,elq,hb,_⟩
           ·have h2:ps.map EV.pv=[]:=h2
            simpa using h2
           ·rw[TN] at hb;cases hb
          subst Qj
          have MB:out=[]:=by rw[←g4];simp[j7]
          subst MB
          obtain⟨news,_,n2,n3,n4⟩:=IT hS.1 hS.2 0 (Nat.zero_le _)
          have Qh:news=[]:=List.eq_nil_of_length_eq_zero (by simpa using n2)
          subst Qh
          have aH:(Builtin.copy_ #[t1,t2] o.type #[a.eval x,a.eval y]).run P w = .ok (goInt 0) w:=by
           rw[hv]
           simp[Builtin.copy_,run_underlying hu,sizeOf,typeInfo,hi,X7,←rD,n4 P,n3 P]
          unfold Oper.wp
          rw[Qr _ _ aH]
          refine hk _ _ (Rel.SD (s:=⟨u6 s.env o.dst (.pv (.int .i64 (0:Nat))),s.bp⟩) ⟨fun _=>rfl,fun z => ?_⟩ ⟨β,I,hr.put (kf hd) (Rd.int _ _)⟩)
          show(cq.set s.bp r (.pure [])).get z=s.bp.get z
          rw[cq.rL]
          split
          ·rename_i hz;rw[hz.1,uR];rfl
          ·rfl
         ·obtain⟨arr,Gq,hg,TQ,u9⟩:=(hr.bp.1 r _ uR).1.block hb
          have TQ:ps.length≤arr.size:=by simpa[SC.zw] using TQ
          obtain⟨news,n1,n2,n3⟩:=JC (ty:=o.type) (sT:=t2) (I:=I) hu hi b off len cap hg hS.1 (by rw[X7,←rD];exact hS.2) g2 (by rw[X7,←rD];omega)
          rw[X7,←rD] at n1 n2
          rw[hv] at Qr
          unfold Oper.wp
          rw[Qr _ _ n3]
          have hlen:(arr.toList.take off++news++arr.toList.drop (off+news.length)).toArray.size=arr.size:=by simp;omega
          have hq:(qs.take (k*sz)).length=k*sz:=n1.1.trans n2
          have qp:=hr.write (sc' := .pure out) Qg uR hb hg hlen (fun j e he=>by
           have he:(out.map EV.pv)[j]? = some e:=he
           rw[←g4,List.getElem?_map,qY _ _ _ (by rw[hq];exact g3),hq] at he
           have Bb:(arr.toList.take off++news++arr.toList.drop (off+news.length)).toArray[j]? = if off≤j∧j<off+k*sz then news[j-off]? else arr[j]? := by
            have:=qY arr.toList off news (by simp;omega) j
            unfold j7 at this
            rw[←List.append_assoc] at this
            simp only[List.getElem?_toArray]
            rw[this,n2]
            simp
           rw[Bb]
           by_cases hj:off≤j∧j<off+k*sz
           ·rw[if_pos hj] at he ⊢
            cases hp:(qs.take (k*sz))[j-off]? with
            |none=>rw[hp] at he;cases he
            |some p =>
             rw[hp] at he
             injection he with he;subst he
             have Sa:j-off<news.length:=by rw[n2];omega
             obtain⟨k1,k2⟩:=n1.2 (j-off) p _ hp (List.getElem?_eq_getElem Sa)
             exact⟨_,List.getElem?_eq_getElem Sa,k2.rI k1,k2⟩
           ·rw[if_neg hj] at he ⊢
            exact u9 j e (by rw[←he];show(ps.map EV.pv)[j]? = _;rw[List.getElem?_map]))
          exact hk _ _ ⟨β,I,qp.put (kf hd) (Rd.int _ _)⟩
       ·cases bz
      ·cases bz
     ·cases bz
    ·cases bz
  ·cases bz
 ·cases bz
theorem UJ(hr:iA Γ s a w β I){r m sz:Nat}{ey:EV}{v:Value}{qs:List PV}{ys:Option (List (List PV))}(kg:KR s.bp r ey=some (m,qs,ys))(g2:KS m sz qs ys)(NW:RE β (ee s.bp) I w ey v):Src w I v m qs∧qs.length=m*sz:=by
 unfold KR at kg
 split at kg
 ·rename_i r2 m2 PM
  cases hq:Nat.beq r2 r with
  |true=>simp[hq] at kg
  |false =>
   simp only[hq,cond_false] at kg
   split at kg
   ·rename_i YT X8
    injection kg with kg;injection kg with e1 kg;injection kg with e2 e3
    subst e1;subst e2;subst e3
    have PO:YT.length=m2*sz:=g2
    exact⟨NX NW (hr.bp.1 r2 _ X8).1 PO,PO⟩
   ·cases kg
 ·rename_i ys'
  injection kg with kg;injection kg with e1 kg;injection kg with e2 e3
  subst e1;subst e2;subst e3
  exact⟨Gp NW g2,CJ g2⟩
 ·cases kg
def NY(T:qU)(n:Nat)(o:Oper)(h:Hint)(s:St):Option (St×List Prop):=CN KR T n o h s
theorem Il(hT:uj P T)(hs:∀r,ee Γ.sin r→Γ.n≤r)(hr:Rel Γ s a w)(bz:NY T Γ.n o h s=some (s',ob))(fK:je ob){K:Act→World→Prop}{Q:Exit→Act→World→Prop}
  (hk:∀a' w',Rel Γ s' a' w'→K a' w'):o.wp P a w K Q:=zT (fun hr=>UJ hr) hT hs hr bz fK hk
def MC:Uz:=fun bp r e =>
 match e with
 |.row r2 off m PM=>bif Nat.beq r2 r then none else match bp.get r2 with
  |some (.pure qs)=>some (m,(qs.drop off).take (m*PM),none)
  |_=>none
 |.pv (.list ys)=>some (ys.length,ys.flatten,some ys)
 |_=>none
theorem Qs{r off m sz PM:Nat}{v:Value}{L:Nat→Prop}{qs:List PV}(hv:RE β L I w (.row r off m PM) v)(hb:RB β L I w r (qs.map EV.pv))(hl:((qs.drop off).take (m*PM)).length=m*sz):Src w I v m ((qs.drop off).take (m*PM)):=by
 obtain⟨_,⟨hn,rfl,rfl⟩|⟨b,c,uI,rfl,_⟩⟩:=hv
 ·exact .inl ⟨none,0,rfl,rfl,by simp⟩
 ·obtain⟨arr,el,hg,TQ,hc⟩:=hb.block uI
  refine .inr ⟨b,off,c,(arr.toList.drop off).take ((qs.drop off).take (m*PM)).length,rfl,fun j u hu => ?_,?_,fun j p u hp hu => ?_⟩
  ·rw[List.getElem?_take] at hu
   split at hu
   ·rw[List.getElem?_drop] at hu
    rw[cell_of_row w b (off+j) arr el (0,0) hg];simpa using hu
   ·cases hu
  ·have hq:qs.length≤arr.size:=by simpa using TQ
   simp only[List.length_take,List.length_drop,Array.length_toList]
   omega
  ·rw[List.getElem?_take] at hp hu
   split at hu
   ·split at hp
    ·rw[List.getElem?_drop] at hp hu
     obtain⟨u',g1,g2,g3⟩:=hc (off+j) (.pv p) (by rw[List.getElem?_map,hp];rfl)
     have:u'=u:=by simpa[g1] using hu
     subst this
     exact⟨PV.wq g3 g2,g3⟩
    ·cases hp
   ·cases hu
theorem SG(hr:iA Γ s a w β I){r m sz:Nat}{ey:EV}{v:Value}{qs:List PV}{ys:Option (List (List PV))}(kg:MC s.bp r ey=some (m,qs,ys))(g2:KS m sz qs ys)(NW:RE β (ee s.bp) I w ey v):Src w I v m qs∧qs.length=m*sz:=by
 unfold MC at kg
 split at kg
 ·rename_i r2 off m2 PM
  cases hq:Nat.beq r2 r with
  |true=>simp[hq] at kg
  |false =>
   simp only[hq,cond_false] at kg
   split at kg
   ·rename_i YT X8
    injection kg with kg;injection kg with e1 kg;injection kg with e2 e3
    subst e1;subst e2;subst e3
    have PO:((YT.drop off).take (m2*PM)).length=m2*sz:=g2
    exact⟨Qs NW (hr.bp.1 r2 _ X8).1 PO,PO⟩
   ·cases kg
 ·rename_i ys'
  injection kg with kg;injection kg with e1 kg;injection kg with e2 e3
  subst e1;subst e2;subst e3
  exact⟨Gp NW g2,CJ g2⟩
 ·cases kg
theorem Rel.cut(hr:Rel Γ s a w){r k:Nat}{ps:List PV}(uR:s.bp.get r=some (.pure ps)):Rel Γ ⟨s.env,cq.set s.bp r (.pure (ps.take k))⟩ a w:=by
 obtain⟨β,I,hr⟩:=hr
 have hL:∀x,ee s.bp x→ee (cq.set s.bp r (.pure (ps.take k))) x:=fun x hx=>ml.2 hx
 refine⟨β,I,fun t e he=>(hr.env t e he).mono (fun _ _=>rfl) hL (fun _ h=>h) (fun _ _ _=>rfl) (fun _ _ _ _=>rfl),⟨fun x sc hx => ?_,fun x y b hx hy=>hr.bp.2 x y b (ml.1 hx) (ml.1 hy)⟩,
  fun x hx=>hr.par x (ml.1 hx),fun x b hx=>hr.new x b (ml.1 hx),hr.ib,hr.ii,hr.aP,hr.size,hr.defers⟩
 have hx:(cq.set s.bp r (.pure (ps.take k))).get x=some sc:=hx
 rw[cq.rL] at hx
 by_cases Ii:x=r∧r<999999
 ·obtain⟨rfl,Qg⟩:=Ii
  rw[if_pos ⟨rfl,Qg⟩,uR] at hx
  simp only[Option.map_some,Option.some.injEq] at hx
  subst hx
  obtain⟨k1,k2⟩:=hr.bp.1 x _ uR
  refine⟨?_,k2⟩
  rcases k1 with ⟨c1,c2⟩|⟨b,arr,el,c1,c2,c3⟩
  ·have c2:ps.map EV.pv=[]:=c2
   exact .inl ⟨c1,by show(ps.take k).map EV.pv=[];rw[List.map_take,c2];simp⟩
  ·refine .inr ⟨b,arr,el,c1,c2,fun i e he => ?_⟩
   have he:((ps.take k).map EV.pv)[i]? = some e:=he
   rw[List.map_take] at he
   have bH:=(List.getElem?_eq_some_iff.1 he).1
   rw[List.length_take] at bH
   rw[List.getElem?_take_of_lt (by omega)] at he
   obtain⟨u,d1,d2,d3⟩:=c3 i e he
   exact⟨u,d1,d2,d3.mono (fun _ _=>rfl) hL (fun _ h=>h) (fun _ _ _=>rfl) (fun _ _ _ _=>rfl)⟩
 ·rw[if_neg Ii] at hx
  obtain⟨k1,k2⟩:=hr.bp.1 x sc hx
  exact⟨k1.mono rfl (fun _ _=>rfl) (fun _ _=>rfl) hL (fun _ h=>h) (fun _ _ _=>rfl) (fun _ _ _ _=>rfl),k2⟩
end
end Go.Proofs.YtllmkadmohkbfaaGreatDoor.Sym
