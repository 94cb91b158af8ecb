/- Lemmas for the statements of this seat. -/
import Derived.Test.YtnjhplhbmapclaaGreatDoorWSymK
namespace Go.Proofs.YtnjhplhbmapclaaGreatDoor.Sym
open Go Go.RowKit
section
variable {P:Program} {T:gi} {Γ:Ctx} {s s':St} {a:Act} {w:World} {β:Nat→Option Nat} {I:Nat→Prop} {o:Oper} {h:Hint} {ob:List Prop}
theorem s7{b sz:Nat} : ∀(ys:List (List PV)) (o:Nat) (f:Nat→Nat→Value),(∀row∈ys,row.length=sz) →
  (∀(i j:Nat) row x,ys[i]? = some row→row[j]? = some x→w.cell? ⟨b,o+(i*sz+j),none⟩=some (f i j)∧x.one=true∧Rd I w x (f i j)) →
  ∃us:List Value,(∀(j:Nat) u,us[j]? = some u→w.cell? ⟨b,o+j,none⟩=some u)∧aV I w ys.flatten us
 |[],o,f,_,_=>⟨[],fun j u h=>by simp at h,rfl,fun j c u h=>by simp at h⟩
 |row::ys,o,f,hl,h=>by
  have qC:row.length=sz:=hl row (by simp)
  obtain⟨us,h1,h2⟩:=s7 ys (o+sz) (fun i j=>f (i+1) j) (fun r hr=>hl r (by simp[hr])) (fun i j r x hi hj=>by
   have:=h (i+1) j r x (by simpa using hi) hj
   rw[show o+sz+(i*sz+j)=o+((i+1)*sz+j) from by rw[Nat.add_mul];omega]
   exact this)
  have nY:∀(j:Nat),((List.range sz).map (f 0)++us)[j]? = if j<sz then some (f 0 j) else us[j-sz]? := by
   intro j
   rw[List.getElem?_append]
   simp only[List.length_map,List.length_range]
   by_cases hj:j<sz
   ·rw[if_pos hj,if_pos hj,List.getElem?_map,List.getElem?_range hj];rfl
   ·rw[if_neg hj,if_neg hj]
  refine⟨(List.range sz).map (f 0)++us,fun j u hu => ?_,by simp[qC];simpa using h2.1,fun j c u hc hu => ?_⟩
  ·rw[nY] at hu
   by_cases hj:j<sz
   ·rw[if_pos hj] at hu
    injection hu with hu;subst hu
    have hx:row[j]? = some row[j]:=List.getElem?_eq_getElem (by omega)
    have:=(h 0 j row _ rfl hx).1
    simpa using this
   ·rw[if_neg hj] at hu
    have:=h1 _ u hu
    rw[show o+sz+(j-sz)=o+j from by omega] at this
    exact this
  ·rw[nY] at hu
   rw[List.flatten_cons,List.getElem?_append] at hc
   by_cases hj:j<sz
   ·rw[if_pos hj] at hu
    rw[if_pos (by omega)] at hc
    injection hu with hu;subst hu
    exact(h 0 j row c rfl hc).2
   ·rw[if_neg hj] at hu
    rw[if_neg (by omega),qC] at hc
    exact h2.2 _ c u hc hu
theorem pk{sz:Nat} : ∀{ys:List (List PV)},(∀row∈ys,row.length=sz)→ys.flatten.length=ys.length*sz
 |[],_=>by simp
 |row::ys,h=>by
  have:=pk (sz:=sz) (ys:=ys) (fun r hr=>h r (by simp[hr]))
  have:=h row (by simp)
  simp only[List.flatten_cons,List.length_append,List.length_cons,Nat.succ_mul]
  omega
def Src(w:World)(I:Nat→Prop)(y:Value)(m:Nat)(qs:List PV):Prop :=
 (∃ao c,y = .slice ao 0 c∧m=0∧qs=[])∨∃b o c us,y = .slice (some ⟨b,o,none⟩) m c∧(∀(j:Nat) u,us[j]? = some u→w.cell? ⟨b,o+j,none⟩=some u)∧aV I w qs us
theorem s8{ys:List (List PV)}{v:Value}{sz:Nat}(hv:Rd I w (.list ys) v)(hs:∀row∈ys,row.length=sz):Src w I v ys.length ys.flatten:=by
 cases hv with
 |nil ao c=>exact .inl ⟨ao,c,rfl,rfl,rfl⟩
 |list _ b o c s f hc hb II ho hh =>
  have gn:∀row∈ys,row.length=s:=fun row hr=>by
   obtain⟨i,hi⟩:=List.mem_iff_getElem?.1 hr
   exact II i row hi
  obtain⟨us,h1,h2⟩:=s7 (w:=w) (I:=I) (b:=b) (sz:=s) ys o f gn (fun i j row x hi hj=>⟨(ho i j row x hi hj).2,(ho i j row x hi hj).1,hh i j row x hi hj⟩)
  exact .inr ⟨b,o,c,us,rfl,h1,h2⟩
theorem Ax{r m sz B8:Nat}{v:Value}{L:Nat→Prop}{qs:List PV}(hv:RE β L I w (.row r 0 m B8) v)(hb:RB β L I w r (qs.map EV.pv))(hl:qs.length=m*sz):Src w I v m qs:=by
 obtain⟨_,⟨hn,rfl,rfl⟩|⟨b,c,jw,rfl,_⟩⟩:=hv
 ·exact .inl ⟨none,0,rfl,rfl,List.eq_nil_of_length_eq_zero (by simpa using hl)⟩
 ·obtain⟨arr,el,hg,FZ,hc⟩:=hb.block jw
  refine .inr ⟨b,0,c,arr.toList.take qs.length,rfl,fun j u hu => ?_,by simp at FZ ⊢;omega,fun j p u hp hu => ?_⟩
  ·rw[List.getElem?_take] at hu
   split at hu
   ·rw[Nat.zero_add,cell_of_row w b j arr el (0,0) hg];simpa using hu
   ·cases hu
  ·rw[List.getElem?_take] at hu
   split at hu
   ·obtain⟨u',g1,g2,g3⟩:=hc j (.pv p) (by rw[List.getElem?_map,hp];rfl)
    have:u'=u:=by simpa[g1] using hu
    subst this
    exact⟨PV.gE g3 g2,g3⟩
   ·cases hu
theorem jm{t e:TypeId}{de:TD}(hu:P.underlying t=some (.slice e))(hd:ko P e de)(ty:TypeId)(ao bo:Option Addr)(len cap c:Nat)(hc:len≤cap) :
  (Builtin.append_ #[t,t] ty #[.slice ao len cap,.slice bo 0 c]).run P w = .ok (.slice ao len cap) w:=by
 cases ao<;>cases bo<;>simp[Builtin.append_,run_underlying hu,hd.run_sizeOf w,Builtin.lenOf,Builtin.firstCells,hc,loadCells,loadCellsFrom,storeCells]
theorem mP{β':Nat→Option Nat}{L':Nat→Prop}{d b:Nat}{ps:List PV}{arr:Array Value}{el:TypeId}(hg:w.heap[b]? = some (.cells arr el (0,0)))
  (hc:∀(j:Nat) p,ps[j]? = some p→∃u,arr[j]? = some u∧u.oneCell'=true∧Rd I w p u) (hb:β' d=some b):RB β' L' I w d (ps.map EV.pv):=by
 refine .inr ⟨b,arr,el,hb,hg,fun j e he => ?_⟩
 rw[List.getElem?_map] at he
 cases hj:ps[j]? with
 |none=>simp[hj] at he
 |some p =>
  simp[hj] at he
  subst he
  exact hc j p hj
theorem oy{r b:Nat}{L:Nat→Prop}{ps:List PV}(h:RB β L I w r (ps.map EV.pv))(hb:β r=some b) :
  ∃arr el,w.heap[b]? = some (.cells arr el (0,0))∧ps.length≤arr.size∧∀(j:Nat) p,ps[j]? = some p→∃u,arr[j]? = some u∧u.oneCell'=true∧Rd I w p u:=by
 obtain⟨arr,el,h1,h2,h3⟩:=h.block hb
 refine⟨arr,el,h1,by simpa using h2,fun j p hp=>h3 j (.pv p) (by rw[List.getElem?_map,hp];rfl)⟩
theorem pn(r:Nat)(hr:r<999999)(sc:SC):∀(s:aD),bQ r (aD.zc s r sc)=bQ r s
 |[]=>rfl
 |(r',c)::s=>by
  have bU:Nat.blt r 999999=true:=Nat.ble_eq_true_of_le hr
  simp only[aD.zc]
  cases hb:Nat.beq r' r with
  |true=>simp[bQ,hb,bU]
  |false=>simp[bQ,hb,pn r hr sc s]
theorem rm(r:Nat)(sc:SC)(s:aD):bQ r (aD.set s r sc)=bQ r s:=by
 unfold aD.set
 by_cases hr:r<999999
 ·rw[show Nat.blt r 999999=true from Nat.ble_eq_true_of_le hr]
  exact pn r hr sc s
 ·rw[show Nat.blt r 999999=false from Bool.eq_false_iff.2 (fun h=>hr (Nat.le_of_ble_eq_true h))]
  rfl
theorem gU(hr:bK Γ s a w β I){r d len sz:Nat}{out:List PV}{v:Value}(oc:d<Γ.n)(po:¬aT Γ.sin d)(pr:¬aT (bQ r s.aw) d){ob:Option Nat}
  (hb:∀b,ob=some b→b<w.heap.size∧¬I b∧Γ.Nw b∧∀x,aT (bQ r s.aw) x→β x≠some b)
  (Av:RB (fun x=>if x=d then ob else β x) (fun x=>aT (bQ r s.aw) x∨x=d) I w d (out.map EV.pv))
  (hv:(ob=none∧len=0∧v = .slice none 0 0)∨∃b c,ob=some b∧v = .slice (some ⟨b,0,none⟩) len c∧len≤c∧∃el n,w.shape? b=some (el,n)∧0+c*sz≤n) :
  Rel Γ ⟨jU (kill r s).env (some d) (.row d 0 len sz),(d,.pure out)::(kill r s).aw⟩ (a.put (some d) v) w:=by
 have h1:=hr.kill r
 have mz:d<999999:=Nat.lt_of_lt_of_le oc Γ.small
 have h2:=h1.site (d:=d) (sc := .pure out) mz pr po (β':=fun x=>if x=d then ob else β x) (fun x hx=>if_neg hx) (fun b cQ=>hb b (by simpa using cQ)) Av
 refine⟨_,_,h2.put (dst:=some d) (fun d' EM=>by injection EM with EM;rw[←EM];exact oc) ⟨(bW mz).2 (.inl rfl),?_⟩⟩
 simpa using hv
theorem oz{t e s9:TypeId}{i:TypeInfo}(ht:P.underlying t=some (.slice e))(hi:P.info? e=some i)(ty:TypeId)
  (g gM n5:Nat) (cur:Array Value) (hg:w.heap[g]? = some (.cells cur s9 (0,0)))
  (ad:Addr) (m c:Nat) (news:List Value) (hl:news.length=m*i.size) (CI:∀j u,news[j]? = some u→w.cell? (ad.add j)=some u) (h1:∀u∈news,u.oneCell'=true)
  (mQ:gM+m≤n5) (jl:gM*i.size+news.length≤cur.size) :
  (Builtin.append_ #[t,t] ty #[.slice (some ⟨g,0,none⟩) gM n5,.slice (some ad) m c]).run P w =
   .ok (.slice (some ⟨g,0,none⟩) (gM+m) n5) (w.setRow g (cur.toList.take (gM*i.size)++news++cur.toList.drop (gM*i.size+news.length)).toArray):=by
 have hf:=run_firstCells_some (P:=P) w i.size m ad m c news hl CI
 have ay:=run_storeCells_at P g (gM*i.size) s9 news 0 cur w hg (by simpa using jl) h1
 simp only[Nat.add_zero] at ay
 simp[Builtin.append_,run_underlying ht,sizeOf,typeInfo,hi,Builtin.lenOf,mQ,hf,Addr.add_lit,ay]
def xD(aw:aD)(r:Nat)(e:EV):Option (Nat×List PV×Option (List (List PV))) :=
 match e with
 |.row r2 0 m _=>bif Nat.beq r2 r then none else match aw.get r2 with
  |some (.pure qs)=>some (m,qs,none)
  |_=>none
 |.pv (.list ys)=>some (ys.length,ys.flatten,some ys)
 |_=>none
def xE(m sz:Nat)(qs:List PV):Option (List (List PV))→Prop
 |none=>qs.length=m*sz
 |some ys=>∀row∈ys,row.length=sz
abbrev GM:=aD→Nat→EV→Option (Nat×List PV×Option (List (List PV)))
def pw(src:GM)(T:gi)(n:Nat)(o:Oper)(h:Hint)(s:St):Option (St×List Prop) :=
 match o.op,o.dst,h with
 |.call c,some d,.app n6 out=>match c.callee,c.args.toList,c.argTypes.toList with
  |.builtin .append,[x,y],[t1,t2]=>bif Nat.beq t1 t2&&Nat.blt d n then
    match T.get t1 with
    |some dt=>match dt.kind with
     |.slice el=>match T.get el,bL s.env x,bL s.env y with
      |some de,some (.row r 0 len sz),some ey=>match s.aw.get r,src s.aw r ey,(kill r s).aw.get d with
       |some (.pure ps),some (m,qs,ys),none=>bif Nat.beq sz de.size&&Nat.ble 1 sz&&Nat.blt r n then
         some (⟨jU (kill r s).env (some d) (.row d 0 n6 sz),(d,.pure out)::(kill r s).aw⟩,
          [ps.length=len*sz,xE m sz qs ys,len+m=n6,ps++qs=out,n6*de.bytes≤140737488355328,n6<9223372036854775808])
        else none
       |_,_,_=>none
      |_,_,_=>none
     |_=>none
    |none=>none
   else none
  |_,_,_=>none
 |_,_,_=>none
theorem mR{src:GM}(HS:∀{β:Nat→Option Nat} {I:Nat→Prop},bK Γ s a w β I→∀{r m sz:Nat} {ey:EV} {v:Value} {qs:List PV} {ys:Option (List (List PV))},src s.aw r ey=some (m,qs,ys)→xE m sz qs ys→RE β (aT s.aw) I w ey v→Src w I v m qs∧qs.length=m*sz)(hT:jh P T)(hs:∀r,aT Γ.sin r→Γ.n≤r)(hr:Rel Γ s a w)(ay:pw src T Γ.n o h s=some (s',ob))(bj:bV ob){K:Act→World→Prop}{Q:Exit→Act→World→Prop}
  (hk:∀a' w',Rel Γ s' a' w'→K a' w'):o.wp P a w K Q:=by
 obtain⟨β,I,hr⟩:=hr
 unfold pw at ay
 split at ay
 ·rename_i c d n6 out nZ xC
  split at ay
  ·rename_i x y t1 t2 lF fM yW
   cases so:(Nat.beq t1 t2&&Nat.blt d Γ.n) with
   |false=>simp[so] at ay
   |true =>
    simp only[so,cond_true] at ay
    simp only[Bool.and_eq_true] at so
    have gp:t1=t2:=Nat.eq_of_beq_eq_true so.1
    have oc:d<Γ.n:=Nat.le_of_ble_eq_true so.2
    subst gp
    split at ay
    ·rename_i dt IL
     split at ay
     ·rename_i el CH
      obtain⟨un,hu,_,hf⟩:=(hT t1 dt IL).under
      rw[CH] at hf
      have hf:un = .slice el:=hf
      subst hf
      split at ay
      ·rename_i de r len sz ey kp hx hy
       split at ay
       ·rename_i ps m qs ys jG cE oa
        cases mJ:(Nat.beq sz de.size&&Nat.ble 1 sz&&Nat.blt r Γ.n) with
        |false=>simp[mJ] at ay
        |true =>
         simp only[mJ,cond_true] at ay
         simp only[Bool.and_eq_true] at mJ
         have gn:sz=de.size:=Nat.eq_of_beq_eq_true mJ.1.1
         have IM:1≤sz:=Nat.le_of_ble_eq_true mJ.1.2
         have ES:r<Γ.n:=Nat.le_of_ble_eq_true mJ.2
         injection ay with ay;injection ay with h1 h2
         subst h1;subst h2
         obtain⟨g1,bj⟩:=bj.cons
         obtain⟨g2,bj⟩:=bj.cons
         obtain⟨g3,bj⟩:=bj.cons
         obtain⟨g4,bj⟩:=bj.cons
         obtain⟨g5,g6⟩:=bj.cons
         have g6:n6<9223372036854775808:=g6
         subst g3;subst g4
         obtain⟨i,hi,vd,Iq,z,hz,_,xh,_⟩:=(hT el de kp).info
         have hex:=hr.xb x _ hx
         have Aw:=hr.xb y _ hy
         obtain⟨r6,qC⟩:=hex
         have Av:=(hr.aw.1 r _ jG).1
         have GN:¬aT Γ.sin r:=fun h=>by have:=hs r h;omega
         have po:¬aT Γ.sin d:=fun h=>absurd (hs d h) (Nat.not_le_of_lt oc)
         have pr:¬aT (kill r s).aw d:=by unfold aT;rw[oa];simp
         have IN:Src w I (a.eval y) m qs∧qs.length=m*sz:=HS hr cE g2 Aw
         obtain⟨CJ,xc⟩:=IN
         have B9:∀v' w',(Builtin.append_ #[t1,t1] o.type #[a.eval x,a.eval y]).run P w = .ok v' w'→Rel Γ ⟨jU (kill r s).env (some d) (.row d 0 (len+m) sz),(d,.pure (ps++qs))::(kill r s).aw⟩ (a.put (some d) v') w'→o.wp P a w K Q:=by
          intro v' w' ai fR
          have iw:=r5 fM
          have pg:=r5 yW
          obtain⟨cl,args,CD⟩:=c
          simp only at lF iw pg
          subst lF;subst iw;subst pg
          unfold Oper.wp execOp
          simp only[nZ,resolve,invoke,builtin,Sem.run_bind,Sem.run_pure,Result.andThen_ok,List.map_toArray,List.map_cons,List.map_nil,ai]
          show K (a.put o.dst v') w'
          rw[xC]
          exact hk _ _ fR
         have ta:(len+m)*i.bytes≤140737488355328:=by rw[Iq];exact g5
         have ET:len+m≤maxLen:=by unfold maxLen;omega
         have IP:∀b,β r=some b→∀x,aT (bQ r s.aw) x→β x≠some b:=fun b hb x hx e =>
          (cC.1 hx).2 (hr.aw.2 x r b (cC.1 hx).1 r6 e hb)
         rcases qC with ⟨FX,xr,uD⟩|⟨b,cap,jw,uD,EJ,ND,nx,vc,jl⟩
         ·
          subst xr
          have CK:ps=[]:=List.eq_nil_of_length_eq_zero (by simpa using g1)
          subst CK
          rcases CJ with ⟨ao,c2,qw,rfl,rfl⟩|⟨b2,o2,c2,us,qw,uH,ox⟩
          ·refine B9 _ _ (by rw[uD,qw];exact jm hu (hT el de kp) _ none ao 0 0 c2 (Nat.le_refl _)) ?_
           exact gU hr (ob:=none) oc po pr (fun b hb=>by cases hb) (.inl ⟨by simp,rfl⟩) (.inl ⟨rfl,rfl,rfl⟩)
          ·have qx:us.length=m*i.size:=by rw[←ox.1,vd,←gn];exact xc
           have EU:∀(j:Nat) u,us[j]? = some u→w.cell? ((⟨b2,o2,none⟩:Addr).add j)=some u:=fun j u yM=>by rw[dC];exact uH j u yM
           rcases Nat.eq_zero_or_pos m with yF|yF
           ·subst yF
            have kX:qs=[]:=List.eq_nil_of_length_eq_zero (by simpa using xc)
            subst kX
            refine B9 _ _ (by rw[uD,qw];exact jm hu (hT el de kp) _ none _ 0 0 c2 (Nat.le_refl _)) ?_
            exact gU hr (ob:=none) oc po pr (fun b hb=>by cases hb) (.inl ⟨by simp,rfl⟩) (.inl ⟨rfl,rfl,rfl⟩)
           ·have ai:=run_append_nil (P:=P) w t1 o.type el i z hu hi hz ⟨b2,o2,none⟩ m c2 us qx EU yF (by omega) (by simp only[Nat.zero_add] at ta;omega)
            refine B9 _ _ (by rw[uD,qw];exact ai) ?_
            have tc:bK Γ s a (w.drew.alloc (.cells (us.toArray++Builtin.zeroCells z.cells (grownCap w m 0 el-m)) el)) β I :=
             hr.grow (((uE.refl _ _).drew).alloc (Nat.le_refl _) _) (fun b h=>h) (fun b h => .inl h)
            have ji:(w.drew.alloc (.cells (us.toArray++Builtin.zeroCells z.cells (grownCap w m 0 el-m)) el)).heap[w.heap.size]? = some (.cells (us.toArray++Builtin.zeroCells z.cells (grownCap w m 0 el-m)) el (0,0)):=heap_alloc_new w.drew _
            have uM:=grownCap_ge w m 0 el
            have jW:∀(j:Nat) p,(([]:List PV)++qs)[j]? = some p→∃u,(us.toArray++Builtin.zeroCells z.cells (grownCap w m 0 el-m))[j]? = some u∧u.oneCell'=true∧Rd I (w.drew.alloc (.cells (us.toArray++Builtin.zeroCells z.cells (grownCap w m 0 el-m)) el)) p u:=by
             intro j p hp
             simp only[List.nil_append] at hp
             have hj:j<us.length:=by rw[←ox.1];exact(List.getElem?_eq_some_iff.1 hp).1
             obtain⟨q1,q2⟩:=ox.2 j p us[j] hp (List.getElem?_eq_getElem hj)
             refine⟨us[j],by rw[Array.getElem?_append_left (by simpa using hj)];simp[hj],q2.fw q1,q2.mono (fun _ h=>h) (fun b o hI=>dS (Below.heap_alloc w.drew _ b (hr.ib b hI)) o)⟩
            refine gU tc (ob:=some w.heap.size) oc po pr (fun b hb => ?_) (mP ji jW (by simp)) (.inr ⟨w.heap.size,grownCap w m 0 el,rfl,by simp,by simpa using uM,el,_,by unfold World.shape?;rw[ji],?_⟩)
            ·injection hb with hb;subst hb
             exact⟨by simp,fun hI=>Nat.lt_irrefl _ (hr.ib _ hI),(.inl hr.aB.size),fun x hx e=>Nat.lt_irrefl _ (hr.lb x _ (cC.1 hx).1 e)⟩
            ·simp only[Array.size_append,List.size_toArray,qx,size_zeroCells,xh,vd,gn]
             rw[←Nat.add_mul]
             have:m+(grownCap w m 0 el-m)=grownCap w m 0 el:=by omega
             rw[this];omega
         ·
          have GO:Γ.Nw b:=hr.new r b r6 (.inl GN) jw
          have Bs:=((hr.aw.1 r _ jG).2 b jw)
          obtain⟨arr,s9,hg,B3,rX⟩:=oy Av jw
          have GP:w.shape? b=some (s9,arr.size):=by unfold World.shape?;rw[hg]
          have vZ:nx=arr.size:=by
           rw[GP] at vc;injection vc with vc;injection vc with h1 h2;exact h2.symm
          subst vZ
          rcases Nat.eq_zero_or_pos m with yF|yF
          ·have qw:∃bo c2,a.eval y = .slice bo 0 c2:=by
            rcases CJ with ⟨ao,c2,qw,_⟩|⟨b2,o2,c2,us,qw,_⟩
            ·exact⟨_,_,qw⟩
            ·exact⟨_,_,by rw[qw,yF]⟩
           obtain⟨bo,c2,qw⟩:=qw
           subst yF
           have kX:qs=[]:=List.eq_nil_of_length_eq_zero (by simpa using xc)
           subst kX
           refine B9 _ _ (by rw[uD,qw];exact jm hu (hT el de kp) _ _ _ len cap c2 EJ) ?_
           exact gU hr (ob:=some b) oc po pr (fun b' cQ=>by injection cQ with cQ;subst cQ;exact⟨Bs.1,Bs.2,GO,IP b jw⟩)
            (mP hg (fun j p hp=>rX j p (by simpa using hp)) (by simp)) (.inr ⟨b,cap,rfl,rfl,EJ,s9,_,GP,jl⟩)
          ·rcases CJ with ⟨_,_,_,hm,_⟩|⟨b2,o2,c2,us,qw,uH,ox⟩
           ·omega
           have qx:us.length=m*i.size:=by rw[←ox.1,vd,←gn];exact xc
           have EU:∀(j:Nat) u,us[j]? = some u→w.cell? ((⟨b2,o2,none⟩:Addr).add j)=some u:=fun j u yM=>by rw[dC];exact uH j u yM
           have GQ:∀u∈us,u.oneCell'=true:=fun u yM=>by
            obtain⟨j,hj⟩:=List.mem_iff_getElem?.1 yM
            have Eo:j<qs.length:=by rw[ox.1];exact(List.getElem?_eq_some_iff.1 hj).1
            obtain⟨q1,q2⟩:=ox.2 j _ u (List.getElem?_eq_getElem Eo) hj
            exact q2.fw q1
           have GR:len*i.size=ps.length:=by rw[vd,←gn];exact g1.symm
           have KE:cap*sz≤arr.size:=by omega
           by_cases mQ:len+m≤cap
           ·have CL:len*i.size+us.length≤arr.size:=by
             have h3:(len+m)*sz≤cap*sz:=Nat.mul_le_mul_right _ mQ
             rw[Nat.add_mul] at h3
             rw[qx,vd,←gn];omega
            have ai:=oz (P:=P) hu hi o.type b len cap arr hg ⟨b2,o2,none⟩ m c2 us qx EU GQ mQ CL
            refine B9 _ _ (by rw[uD,qw];exact ai) ?_
            have CM:(arr.toList.take (len*i.size)++us++arr.toList.drop (len*i.size+us.length)).toArray.size=arr.size:=by
             simp;omega
            have nY:∀j,(arr.toList.take (len*i.size)++us++arr.toList.drop (len*i.size+us.length)).toArray[j]? = if len*i.size≤j∧j<len*i.size+us.length then us[j-len*i.size]? else arr[j]? := by
             intro j
             have:=e7 arr.toList (len*i.size) us (by simp;omega) j
             unfold cR at this
             rw[←List.append_assoc] at this
             simp only[List.getElem?_toArray]
             rw[this]
             simp only[Array.getElem?_toList]
            have xF:∀(j:Nat) p,(ps++qs)[j]? = some p→∃u,(arr.toList.take (len*i.size)++us++arr.toList.drop (len*i.size+us.length)).toArray[j]? = some u∧u.oneCell'=true∧Rd I w p u:=by
             intro j p hp
             rw[nY j]
             rw[List.getElem?_append] at hp
             by_cases hj:j<ps.length
             ·rw[if_pos hj] at hp
              rw[if_neg (by omega)]
              exact rX j p hp
             ·rw[if_neg hj] at hp
              have GS:=(List.getElem?_eq_some_iff.1 hp).1
              have CN:j-ps.length<us.length:=by rw[←ox.1];exact GS
              rw[if_pos (by omega),GR]
              obtain⟨q1,q2⟩:=ox.2 _ p us[j-ps.length] hp (List.getElem?_eq_getElem CN)
              exact⟨_,List.getElem?_eq_getElem CN,q2.fw q1,q2⟩
            have KF:=hr.write (sc' := .pure (ps++qs)) (Nat.lt_of_lt_of_le ES Γ.small) jG jw hg CM (fun j e' dN=>by
             simp only[SC.mw,List.getElem?_map] at dN
             cases hp:(ps++qs)[j]? with
             |none=>simp[hp] at dN
             |some p =>
              simp[hp] at dN
              subst dN
              exact xF j p hp)
            have zd:bQ r (aD.set s.aw r (.pure (ps++qs)))=bQ r s.aw:=rm r _ s.aw
            have GU:kill r ⟨s.env,aD.set s.aw r (.pure (ps++qs))⟩=kill r s:=by unfold kill;simp only[zd]
            have CO:=gU KF (r:=r) (d:=d) (len:=len+m) (sz:=sz) (out:=ps++qs) (v := .slice (some ⟨b,0,none⟩) (len+m) cap) (ob:=some b) oc po (by rw[zd];exact pr)
             (fun b' cQ=>by
              injection cQ with cQ;subst cQ
              rw[zd]
              exact⟨by simpa[World.setRow] using Bs.1,Bs.2,GO,IP b jw⟩)
             (mP (setRow_heap w b arr _ s9 (0,0) hg) (fun j p hp=>by
              obtain⟨u,q1,q2,q3⟩:=xF j p hp
              exact⟨u,q1,q2,q3.mono (fun _ h=>h) (fun b' o' hI=>dS (setRow_other w b b' _ (fun e=>Bs.2 (e ▸ hI))) o')⟩) (by simp))
             (.inr ⟨b,cap,rfl,rfl,mQ,s9,arr.size,by rw[lR w b b _ arr s9 (0,0) hg CM];exact GP,jl⟩)
            rw[GU] at CO
            exact CO
           ·have CP:(arr.toList.take ps.length).length=len*i.size:=by simp;omega
            have holds:∀(j:Nat) v,(arr.toList.take ps.length)[j]? = some v→w.cell? ((⟨b,0,none⟩:Addr).add j)=some v:=by
             intro j v hv
             rw[dC,Nat.zero_add,cell_of_row w b j arr s9 (0,0) hg]
             rw[List.getElem?_take] at hv
             split at hv
             ·simpa using hv
             ·cases hv
            have ai:=run_append_grow (P:=P) w t1 o.type el i z hu hi hz ⟨b,0,none⟩ len cap (arr.toList.take ps.length) CP holds ⟨b2,o2,none⟩ m c2 us qx EU (by omega) (by omega) (growslice_fits (by omega) ta)
            refine B9 _ _ (by rw[uD,qw];exact ai) ?_
            generalize hW:((arr.toList.take ps.length).toArray++us.toArray++Builtin.zeroCells z.cells (grownCap w (len+m) cap el-(len+m)):Array Value)=narr
            have tc:bK Γ s a (w.drew.alloc (.cells narr el)) β I :=
             hr.grow (((uE.refl _ _).drew).alloc (Nat.le_refl _) _) (fun b h=>h) (fun b h => .inl h)
            have ji:(w.drew.alloc (.cells narr el)).heap[w.heap.size]? = some (.cells narr el (0,0)):=heap_alloc_new w.drew _
            have uM:=grownCap_ge w (len+m) cap el
            have xG:∀{p:PV} {u:Value},Rd I w p u→Rd I (w.drew.alloc (.cells narr el)) p u:=fun h=>h.mono (fun _ h=>h) (fun b o hI=>dS (Below.heap_alloc w.drew _ b (hr.ib b hI)) o)
            have jW:∀(j:Nat) p,(ps++qs)[j]? = some p→∃u,narr[j]? = some u∧u.oneCell'=true∧Rd I (w.drew.alloc (.cells narr el)) p u:=by
             intro j p hp
             have El:(arr.toList.take ps.length).length=ps.length:=by simp;omega
             have CQ:narr[j]? = if j<ps.length then arr[j]? else if j<ps.length+us.length then us[j-ps.length]? else (Builtin.zeroCells z.cells (grownCap w (len+m) cap el-(len+m)))[j-(ps.length+us.length)]? := by
              rw[←hW,Array.getElem?_append,Array.getElem?_append]
              simp only[Array.size_append,List.size_toArray,El,List.getElem?_toArray]
              by_cases hj:j<ps.length
              ·rw[if_pos (by omega),if_pos hj,if_pos hj,List.getElem?_take,if_pos hj];simp
              ·by_cases ze:j<ps.length+us.length
               ·rw[if_pos ze,if_neg hj,if_neg hj,if_pos ze]
               ·rw[if_neg ze,if_neg hj,if_neg ze]
             rw[CQ]
             rw[List.getElem?_append] at hp
             by_cases hj:j<ps.length
             ·rw[if_pos hj] at hp ⊢
              obtain⟨u,q1,q2,q3⟩:=rX j p hp
              exact⟨u,q1,q2,xG q3⟩
             ·rw[if_neg hj] at hp ⊢
              have GS:=(List.getElem?_eq_some_iff.1 hp).1
              have CN:j-ps.length<us.length:=by rw[←ox.1];exact GS
              rw[if_pos (by omega)]
              obtain⟨q1,q2⟩:=ox.2 _ p us[j-ps.length] hp (List.getElem?_eq_getElem CN)
              exact⟨_,List.getElem?_eq_getElem CN,q2.fw q1,xG q2⟩
            refine gU tc (ob:=some w.heap.size) oc po pr (fun b' cQ => ?_) (mP ji jW (by simp)) (.inr ⟨w.heap.size,grownCap w (len+m) cap el,rfl,rfl,uM,el,_,by unfold World.shape?;rw[ji],?_⟩)
            ·injection cQ with cQ;subst cQ
             exact⟨by simp,fun hI=>Nat.lt_irrefl _ (hr.ib _ hI),(.inl hr.aB.size),fun x hx e=>Nat.lt_irrefl _ (hr.lb x _ (cC.1 hx).1 e)⟩
            ·rw[←hW]
             simp only[Array.size_append,List.size_toArray,CP,qx,size_zeroCells,xh,vd,gn]
             rw[←Nat.add_mul,←Nat.add_mul]
             have:len+m+(grownCap w (len+m) cap el-(len+m))=grownCap w (len+m) cap el:=by omega
             rw[this];omega
       ·cases ay
      ·cases ay
     ·cases ay
    ·cases ay
  ·cases ay
 ·cases ay
theorem vf{w:World}{I:Nat→Prop}{y:Value}{m sz:Nat}{qs:List PV}(cE:Src w I y m qs)(hl:qs.length=m*sz)(k:Nat)(hk:k≤m) :
  ∃news,aV I w (qs.take (k*sz)) news∧news.length=k*sz∧(∀(P:Program),(Builtin.firstCells sz k y).run P w = .ok news.toArray w)∧∀(P:Program),(Builtin.lenOf y).run P w = .ok m w:=by
 rcases cE with ⟨ao,c,rfl,rfl,rfl⟩|⟨b,o,c,us,rfl,h1,h2⟩
 ·have:k=0:=by omega
  subst this
  refine⟨[],⟨by simp,fun j p u h=>by simp at h⟩,by simp,fun P => ?_,fun P=>rfl⟩
  cases ao with
  |none=>rfl
  |some a=>simp[Builtin.firstCells,loadCells,loadCellsFrom]
 ·have Mu:us.length=m*sz:=by rw[←h2.1];exact hl
  have Pd:k*sz≤m*sz:=Nat.mul_le_mul_right _ hk
  refine⟨us.take (k*sz),⟨by simp;omega,fun j p u hp hu => ?_⟩,by simp;omega,fun P => ?_,fun P=>rfl⟩
  ·rw[List.getElem?_take] at hp hu
   split at hp
   ·rename_i hj
    rw[if_pos hj] at hu
    exact h2.2 j p u hp hu
   ·cases hp
  ·have:=run_loadCells_list (P:=P) w ⟨b,o,none⟩ (us.take (k*sz)) (fun j v hv=>by
    rw[List.getElem?_take] at hv
    split at hv
    ·rw[Addr.add_lit];exact h1 j v hv
    ·cases hv)
   rw[List.length_take,Nat.min_eq_left (by omega)] at this
   simpa[Builtin.firstCells] using this
theorem wa{dT sT ty e:TypeId}{i:TypeInfo}(hu:P.underlying dT=some (.slice e))(hi:P.info? e=some i)(g off GV KG:Nat){cur:Array Value}{s9:TypeId}(hg:w.heap[g]? = some (.cells cur s9 (0,0))){y:Value}{m k:Nat}{qs:List PV}
  (cE:Src w I y m qs) (hl:qs.length=m*i.size) (hk:min m GV=k) (jl:off+k*i.size≤cur.size) :
  ∃news,aV I w (qs.take (k*i.size)) news∧news.length=k*i.size ∧
   (Builtin.copy_ #[dT,sT] ty #[.slice (some ⟨g,off,none⟩) GV KG,y]).run P w = .ok (goInt k) (w.setRow g (cur.toList.take off++news++cur.toList.drop (off+news.length)).toArray):=by
 obtain⟨news,h1,h2,h3,h4⟩:=vf cE hl k (by omega)
 refine⟨news,h1,h2,?_⟩
 have ay:=run_storeCells_at P g off s9 news 0 cur w hg (by simp;omega) (fun v hv=>by
  obtain⟨j,hj⟩:=List.mem_iff_getElem?.1 hv
  have Eo:j<(qs.take (k*i.size)).length:=by rw[h1.1];exact(List.getElem?_eq_some_iff.1 hj).1
  obtain⟨k1,k2⟩:=h1.2 j _ v (List.getElem?_eq_getElem Eo) hj
  exact k2.fw k1)
 simp only[Nat.add_zero] at ay
 have GW:Nat.min m GV=k:=hk
 simp[Builtin.copy_,run_underlying hu,sizeOf,typeInfo,hi,h4 P,GW,h3 P,ay]
def td(T:gi)(n:Nat)(o:Oper)(h:Hint)(s:St):Option (St×List Prop) :=
 match o.op,h with
 |.call c,.app k out=>match c.callee,c.args.toList,c.argTypes.toList with
  |.builtin .copy,[x,y],[t1,_]=>bif gG n o.dst then
    match T.get t1 with
    |some dt=>match dt.kind with
     |.slice el=>match T.get el,bL s.env x,bL s.env y with
      |some de,some (.row r off len sz),some ey=>match s.aw.get r,xD s.aw r ey with
       |some (.pure ps),some (m,qs,ys)=>bif Nat.beq sz de.size&&Nat.blt r 999999 then
         some (⟨jU s.env o.dst (.pv (.int .i64 (k:Int))),aD.set s.aw r (.pure out)⟩,
          [xE m sz qs ys,min m len=k,off+k*sz≤ps.length,cR ps off (qs.take (k*sz))=out])
        else none
       |_,_=>none
      |_,_,_=>none
     |_=>none
    |none=>none
   else none
  |_,_,_=>none
 |_,_=>none
theorem tf(hT:jh P T)(hr:Rel Γ s a w)(ay:td T Γ.n o h s=some (s',ob))(bj:bV ob){K:Act→World→Prop}{Q:Exit→Act→World→Prop}
  (hk:∀a' w',Rel Γ s' a' w'→K a' w'):o.wp P a w K Q:=by
 obtain⟨β,I,hr⟩:=hr
 unfold td at ay
 split at ay
 ·rename_i c k out nZ
  split at ay
  ·rename_i x y t1 t2 lF fM yW
   cases hd:gG Γ.n o.dst with
   |false=>simp[hd] at ay
   |true =>
    simp only[hd,cond_true] at ay
    split at ay
    ·rename_i dt IL
     split at ay
     ·rename_i el CH
      obtain⟨un,hu,_,hf⟩:=(hT t1 dt IL).under
      rw[CH] at hf
      have hf:un = .slice el:=hf
      subst hf
      split at ay
      ·rename_i de r off len sz ey kp hx hy
       split at ay
       ·rename_i ps m qs ys jG cE
        cases hb20:(Nat.beq sz de.size&&Nat.blt r 999999) with
        |false=>simp[hb20] at ay
        |true =>
         simp only[hb20,cond_true] at ay
         rw[Bool.and_eq_true] at hb20
         have mJ:=hb20.1
         have CG:r<999999:=Nat.le_of_ble_eq_true hb20.2
         have gn:sz=de.size:=Nat.eq_of_beq_eq_true mJ
         injection ay with ay;injection ay with h1 h2
         subst h1;subst h2
         obtain⟨g1,bj⟩:=bj.cons
         obtain⟨g2,bj⟩:=bj.cons
         obtain⟨g3,g4⟩:=bj.cons
         have g4:cR ps off (qs.take (k*sz))=out:=g4
         obtain⟨i,hi,J0,_,_⟩:=(hT el de kp).info
         obtain⟨cl,args,CD⟩:=c
         have lF:cl = .builtin .copy:=lF
         subst lF
         have iw:args = #[x,y]:=r5 fM
         have pg:CD = #[t1,t2]:=r5 yW
         subst iw;subst pg
         have hS:Src w I (a.eval y) m qs∧qs.length=m*sz:=by
          have GX:=hr.xb y _ hy
          unfold xD at cE
          split at cE
          ·rename_i r2 m2 B8
           cases jw:Nat.beq r2 r with
           |true=>simp[jw] at cE
           |false =>
            simp only[jw,cond_false] at cE
            split at cE
            ·rename_i NG yG
             injection cE with cE;injection cE with e1 e2;injection e2 with e2 e3
             subst e1;subst e2;subst e3
             have g1:NG.length=m2*sz:=g1
             exact⟨Ax GX ((hr.aw.1 r2 _ yG).1) g1,g1⟩
            ·cases cE
          ·rename_i NH
           injection cE with cE;injection cE with e1 e2;injection e2 with e2 e3
           subst e1;subst e2;subst e3
           have g1:∀row∈NH,row.length=sz:=g1
           exact⟨s8 GX g1,pk g1⟩
          ·cases cE
         obtain⟨r6,hv⟩:=hr.xb x _ hx
         have CR:∀v w',(Builtin.copy_ #[t1,t2] o.type #[a.eval x,a.eval y]).run P w = .ok v w'→(execOp a.eval o).run P w = .ok (.value v) w':=by
          intro v w' ai
          simp[execOp,nZ,resolve,invoke,builtin,ai]
         rcases hv with ⟨FX,xr,hv⟩|⟨b,cap,hb,hv,hc,NI,nn,vc,Ku⟩
         ·
          subst xr
          have NJ:k=0:=by rw[←g2];exact Nat.min_zero m
          subst NJ
          have CK:ps=[]:=by
           rcases(hr.aw.1 r _ jG).1 with ⟨_,h2⟩|⟨b,arr,Pe,hb,_⟩
           ·have h2:ps.map EV.pv=[]:=h2
            simpa using h2
           ·rw[FX] at hb;cases hb
          subst CK
          have EW:out=[]:=by rw[←g4];simp[cR]
          subst EW
          obtain⟨news,_,n2,n3,n4⟩:=vf hS.1 hS.2 0 (Nat.zero_le _)
          have CI:news=[]:=List.eq_nil_of_length_eq_zero (by simpa using n2)
          subst CI
          have ai:(Builtin.copy_ #[t1,t2] o.type #[a.eval x,a.eval y]).run P w = .ok (goInt 0) w:=by
           rw[hv]
           simp[Builtin.copy_,run_underlying hu,sizeOf,typeInfo,hi,J0,←gn,n4 P,n3 P]
          unfold Oper.wp
          rw[CR _ _ ai]
          refine hk _ _ (Rel.ER (s:=⟨jU s.env o.dst (.pv (.int .i64 (0:Nat))),s.aw⟩) ⟨fun _=>rfl,fun z => ?_⟩ ⟨β,I,hr.put (cD hd) (Rd.int _ _)⟩)
          show(aD.set s.aw r (.pure [])).get z=s.aw.get z
          rw[aD.gT]
          split
          ·rename_i hz;rw[hz.1,jG];rfl
          ·rfl
         ·obtain⟨arr,s9,hg,FZ,jW⟩:=(hr.aw.1 r _ jG).1.block hb
          have FZ:ps.length≤arr.size:=by simpa[SC.mw] using FZ
          obtain⟨news,n1,n2,n3⟩:=wa (ty:=o.type) (sT:=t2) (I:=I) hu hi b off len cap hg hS.1 (by rw[J0,←gn];exact hS.2) g2 (by rw[J0,←gn];omega)
          rw[J0,←gn] at n1 n2
          rw[hv] at CR
          unfold Oper.wp
          rw[CR _ _ n3]
          have hlen:(arr.toList.take off++news++arr.toList.drop (off+news.length)).toArray.size=arr.size:=by simp;omega
          have hq:(qs.take (k*sz)).length=k*sz:=n1.1.trans n2
          have fR:=hr.write (sc' := .pure out) CG jG hb hg hlen (fun j e he=>by
           have he:(out.map EV.pv)[j]? = some e:=he
           rw[←g4,List.getElem?_map,e7 _ _ _ (by rw[hq];exact g3),hq] at he
           have nY:(arr.toList.take off++news++arr.toList.drop (off+news.length)).toArray[j]? = if off≤j∧j<off+k*sz then news[j-off]? else arr[j]? := by
            have:=e7 arr.toList off news (by simp;omega) j
            unfold cR at this
            rw[←List.append_assoc] at this
            simp only[List.getElem?_toArray]
            rw[this,n2]
            simp
           rw[nY]
           by_cases hj:off≤j∧j<off+k*sz
           ·rw[if_pos hj] at he ⊢
            cases hp:(qs.take (k*sz))[j-off]? with
            |none=>rw[hp] at he;cases he
            |some p =>
             rw[hp] at he
             injection he with he;subst he
             have Eo:j-off<news.length:=by rw[n2];omega
             obtain⟨k1,k2⟩:=n1.2 (j-off) p _ hp (List.getElem?_eq_getElem Eo)
             exact⟨_,List.getElem?_eq_getElem Eo,k2.fw k1,k2⟩
           ·rw[if_neg hj] at he ⊢
            exact jW j e (by rw[←he];show(ps.map EV.pv)[j]? = _;rw[List.getElem?_map]))
          exact hk _ _ ⟨β,I,fR.put (cD hd) (Rd.int _ _)⟩
       ·cases ay
      ·cases ay
     ·cases ay
    ·cases ay
  ·cases ay
 ·cases ay
theorem GY(hr:bK Γ s a w β I){r m sz:Nat}{ey:EV}{v:Value}{qs:List PV}{ys:Option (List (List PV))}(cE:xD s.aw r ey=some (m,qs,ys))(g2:xE m sz qs ys)(Aw:RE β (aT s.aw) I w ey v):Src w I v m qs∧qs.length=m*sz:=by
 unfold xD at cE
 split at cE
 ·rename_i r2 m2 B8
  cases hq:Nat.beq r2 r with
  |true=>simp[hq] at cE
  |false =>
   simp only[hq,cond_false] at cE
   split at cE
   ·rename_i KH J1
    injection cE with cE;injection cE with e1 cE;injection cE with e2 e3
    subst e1;subst e2;subst e3
    have Ca:KH.length=m2*sz:=g2
    exact⟨Ax Aw (hr.aw.1 r2 _ J1).1 Ca,Ca⟩
   ·cases cE
 ·rename_i NK
  injection cE with cE;injection cE with e1 cE;injection cE with e2 e3
  subst e1;subst e2;subst e3
  exact⟨s8 Aw g2,pk g2⟩
 ·cases cE
def Ay(T:gi)(n:Nat)(o:Oper)(h:Hint)(s:St):Option (St×List Prop):=pw xD T n o h s
theorem uN(hT:jh P T)(hs:∀r,aT Γ.sin r→Γ.n≤r)(hr:Rel Γ s a w)(ay:Ay T Γ.n o h s=some (s',ob))(bj:bV ob){K:Act→World→Prop}{Q:Exit→Act→World→Prop}
  (hk:∀a' w',Rel Γ s' a' w'→K a' w'):o.wp P a w K Q:=mR (fun hr=>GY hr) hT hs hr ay bj hk
def zf:GM:=fun aw r e =>
 match e with
 |.row r2 off m B8=>bif Nat.beq r2 r then none else match aw.get r2 with
  |some (.pure qs)=>some (m,(qs.drop off).take (m*B8),none)
  |_=>none
 |.pv (.list ys)=>some (ys.length,ys.flatten,some ys)
 |_=>none
theorem CS{r off m sz B8:Nat}{v:Value}{L:Nat→Prop}{qs:List PV}(hv:RE β L I w (.row r off m B8) v)(hb:RB β L I w r (qs.map EV.pv))(hl:((qs.drop off).take (m*B8)).length=m*sz):Src w I v m ((qs.drop off).take (m*B8)):=by
 obtain⟨_,⟨hn,rfl,rfl⟩|⟨b,c,jw,rfl,_⟩⟩:=hv
 ·exact .inl ⟨none,0,rfl,rfl,by simp⟩
 ·obtain⟨arr,el,hg,FZ,hc⟩:=hb.block jw
  refine .inr ⟨b,off,c,(arr.toList.drop off).take ((qs.drop off).take (m*B8)).length,rfl,fun j u hu => ?_,?_,fun j p u hp hu => ?_⟩
  ·rw[List.getElem?_take] at hu
   split at hu
   ·rw[List.getElem?_drop] at hu
    rw[cell_of_row w b (off+j) arr el (0,0) hg];simpa using hu
   ·cases hu
  ·have hq:qs.length≤arr.size:=by simpa using FZ
   simp only[List.length_take,List.length_drop,Array.length_toList]
   omega
  ·rw[List.getElem?_take] at hp hu
   split at hu
   ·split at hp
    ·rw[List.getElem?_drop] at hp hu
     obtain⟨u',g1,g2,g3⟩:=hc (off+j) (.pv p) (by rw[List.getElem?_map,hp];rfl)
     have:u'=u:=by simpa[g1] using hu
     subst this
     exact⟨PV.gE g3 g2,g3⟩
    ·cases hp
   ·cases hu
theorem EX(hr:bK Γ s a w β I){r m sz:Nat}{ey:EV}{v:Value}{qs:List PV}{ys:Option (List (List PV))}(cE:zf s.aw r ey=some (m,qs,ys))(g2:xE m sz qs ys)(Aw:RE β (aT s.aw) I w ey v):Src w I v m qs∧qs.length=m*sz:=by
 unfold zf at cE
 split at cE
 ·rename_i r2 off m2 B8
  cases hq:Nat.beq r2 r with
  |true=>simp[hq] at cE
  |false =>
   simp only[hq,cond_false] at cE
   split at cE
   ·rename_i KH J1
    injection cE with cE;injection cE with e1 cE;injection cE with e2 e3
    subst e1;subst e2;subst e3
    have Ca:((KH.drop off).take (m2*B8)).length=m2*sz:=g2
    exact⟨CS Aw (hr.aw.1 r2 _ J1).1 Ca,Ca⟩
   ·cases cE
 ·rename_i NK
  injection cE with cE;injection cE with e1 cE;injection cE with e2 e3
  subst e1;subst e2;subst e3
  exact⟨s8 Aw g2,pk g2⟩
 ·cases cE
theorem Rel.cut(hr:Rel Γ s a w){r k:Nat}{ps:List PV}(jG:s.aw.get r=some (.pure ps)):Rel Γ ⟨s.env,aD.set s.aw r (.pure (ps.take k))⟩ a w:=by
 obtain⟨β,I,hr⟩:=hr
 have hL:∀x,aT s.aw x→aT (aD.set s.aw r (.pure (ps.take k))) x:=fun x hx=>dD.2 hx
 refine⟨β,I,fun t e he=>(hr.env t e he).mono (fun _ _=>rfl) hL (fun _ h=>h) (fun _ _ _=>rfl) (fun _ _ _ _=>rfl),⟨fun x sc hx => ?_,fun x y b hx hy=>hr.aw.2 x y b (dD.1 hx) (dD.1 hy)⟩,
  fun x hx=>hr.par x (dD.1 hx),fun x b hx=>hr.new x b (dD.1 hx),hr.ib,hr.ii,hr.aB,hr.size,hr.defers⟩
 have hx:(aD.set s.aw r (.pure (ps.take k))).get x=some sc:=hx
 rw[aD.gT] at hx
 by_cases uK:x=r∧r<999999
 ·obtain⟨rfl,CG⟩:=uK
  rw[if_pos ⟨rfl,CG⟩,jG] at hx
  simp only[Option.map_some,Option.some.injEq] at hx
  subst hx
  obtain⟨k1,k2⟩:=hr.aw.1 x _ jG
  refine⟨?_,k2⟩
  rcases k1 with ⟨c1,c2⟩|⟨b,arr,el,c1,c2,c3⟩
  ·have c2:ps.map EV.pv=[]:=c2
   exact .inl ⟨c1,by show(ps.take k).map EV.pv=[];rw[List.map_take,c2];simp⟩
  ·refine .inr ⟨b,arr,el,c1,c2,fun i e he => ?_⟩
   have he:((ps.take k).map EV.pv)[i]? = some e:=he
   rw[List.map_take] at he
   have cS:=(List.getElem?_eq_some_iff.1 he).1
   rw[List.length_take] at cS
   rw[List.getElem?_take_of_lt (by omega)] at he
   obtain⟨u,d1,d2,d3⟩:=c3 i e he
   exact⟨u,d1,d2,d3.mono (fun _ _=>rfl) hL (fun _ h=>h) (fun _ _ _=>rfl) (fun _ _ _ _=>rfl)⟩
 ·rw[if_neg uK] at hx
  obtain⟨k1,k2⟩:=hr.aw.1 x sc hx
  exact⟨k1.mono rfl (fun _ _=>rfl) (fun _ _=>rfl) hL (fun _ h=>h) (fun _ _ _=>rfl) (fun _ _ _ _=>rfl),k2⟩
end
end Go.Proofs.YtnjhplhbmapclaaGreatDoor.Sym
