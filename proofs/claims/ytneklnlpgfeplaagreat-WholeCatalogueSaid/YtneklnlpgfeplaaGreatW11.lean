/- Lemmas for the statements of this seat. -/
import Derived.Test.YtneklnlpgfeplaaGreatW10
namespace Go.Proofs.YtneklnlpgfeplaaGreat.Sym
open Go Go.RowKit
section
variable {P:Program} {T:ja} {Γ:Ctx} {s s':St} {a:Act} {w:World} {β:Nat→Option Nat} {I:Nat→Prop} {o:Oper} {h:Hint} {ob:List Prop}
theorem z6{b sz:Nat} : ∀(ys:List (List PV)) (o:Nat) (f:Nat→Nat→Value),(∀row∈ys,row.length=sz) →
  (∀(i j:Nat) row x,ys[i]? = some row→row[j]? = some x→w.cell? ⟨b,o+(i*sz+j),none⟩=some (f i j)∧x.one=true∧Rd I w x (f i j)) →
  ∃us:List Value,(∀(j:Nat) u,us[j]? = some u→w.cell? ⟨b,o+j,none⟩=some u)∧bO I w ys.flatten us
 |[],o,f,_,_=>⟨[],fun j u h=>by simp at h,rfl,fun j c u h=>by simp at h⟩
 |row::ys,o,f,hl,h=>by
  have wg:row.length=sz:=hl row (by simp);obtain⟨us,h1,h2⟩:=z6 ys (o+sz) (fun i j=>f (i+1) j) (fun r hr=>hl r (by simp[hr])) (fun i j r x hi hj=>by have:=h (i+1) j r x (by simpa using hi) hj;rw[show o+sz+(i*sz+j)=o+((i+1)*sz+j) from by rw[acv];omega];exact this)
  have qz:∀(j:Nat),((List.range sz).map (f 0)++us)[j]? = if j<sz then some (f 0 j) else us[j-sz]? := by
   intro j;rw[acC];simp only[List.length_map,List.length_range];by_cases hj:j<sz
   ·rw[ac7 hj,ac7 hj,abR,adE hj];rfl
   ·rw[ac3 hj,ac3 hj]
  refine⟨(List.range sz).map (f 0)++us,fun j u hu => ?_,by simp[wg];simpa using h2.1,fun j c u hc hu => ?_⟩
  ·rw[qz] at hu;by_cases hj:j<sz
   ·rw[ac7 hj] at hu;injection hu with hu;subst hu
    have hx:row[j]? = some row[j]:=abJ (by omega);have:=(h 0 j row _ rfl hx).1;simpa using this
   ·rw[ac3 hj] at hu;have:=h1 _ u hu;rw[show o+sz+(j-sz)=o+j from by omega] at this;exact this
  ·rw[qz] at hu;rw[acM,acC] at hc;by_cases hj:j<sz
   ·rw[ac7 hj] at hu;rw[ac7 (by omega)] at hc;injection hu with hu;subst hu
    exact(h 0 j row c rfl hc).2
   ·rw[ac3 hj] at hu;rw[ac3 (by omega),wg] at hc;exact h2.2 _ c u hc hu
theorem wh{sz:Nat} : ∀{ys:List (List PV)},(∀row∈ys,row.length=sz)→ys.flatten.length=ys.length*sz
 |[],_=>by simp
 |row::ys,h=>by have:=wh (sz:=sz) (ys:=ys) (fun r hr=>h r (by simp[hr]));have:=h row (by simp);simp only[List.flatten_cons,List.length_append,List.length_cons,Nat.succ_mul];omega
def Src(w:World)(I:Nat→Prop)(y:Value)(m:Nat)(qs:List PV):Prop :=
 (∃ao c,y = .slice ao 0 c∧m=0∧qs=[])∨∃b o c us,y = .slice (some ⟨b,o,none⟩) m c∧(∀(j:Nat) u,us[j]? = some u→w.cell? ⟨b,o+j,none⟩=some u)∧bO I w qs us
theorem z7{ys:List (List PV)}{v:Value}{sz:Nat}(hv:Rd I w (.list ys) v)(hs:∀row∈ys,row.length=sz):Src w I v ys.length ys.flatten:=by
 cases hv with
 |nil ao c=>exact .inl ⟨ao,c,rfl,rfl,rfl⟩
 |list _ b o c s f hc hb RU ho hh =>
  have ji:∀row∈ys,row.length=s:=fun row hr=>by obtain⟨i,hi⟩:=acR.1 hr;exact RU i row hi
  obtain⟨us,h1,h2⟩:=z6 (w:=w) (I:=I) (b:=b) (sz:=s) ys o f ji (fun i j row x hi hj=>⟨(ho i j row x hi hj).2,(ho i j row x hi hj).1,hh i j row x hi hj⟩);exact .inr ⟨b,o,c,us,rfl,h1,h2⟩
theorem HQ{r m sz Jv:Nat}{v:Value}{L:Nat→Prop}{qs:List PV}(hv:RE β L I w (.row r 0 m Jv) v)(hb:RB β L I w r (qs.map EV.pv))(hl:qs.length=m*sz):Src w I v m qs:=by
 obtain⟨_,⟨hn,rfl,rfl⟩|⟨b,c,lA,rfl,_⟩⟩:=hv
 ·exact .inl ⟨none,0,rfl,rfl,abT (by simpa using hl)⟩
 ·obtain⟨arr,el,hg,Mp,hc⟩:=hb.block lA;refine .inr ⟨b,0,c,arr.toList.take qs.length,rfl,fun j u hu => ?_,by simp at Mp ⊢;omega,fun j p u hp hu => ?_⟩
  ·rw[ack] at hu;split at hu
   ·rw[acw,cell_of_row w b j arr el (0,0) hg];simpa using hu
   ·cases hu
  ·rw[ack] at hu;split at hu
   ·obtain⟨u',g1,g2,g3⟩:=hc j (.pv p) (by rw[abR,hp];rfl);have:u'=u:=by simpa[g1] using hu
    subst this;exact⟨PV.kT g3 g2,g3⟩
   ·cases hu
theorem nO{t e:TypeId}{de:TD}(hu:P.underlying t=some (.slice e))(hd:od P e de)(ty:TypeId)(ao bo:Option Addr)(len cap c:Nat)(hc:len≤cap) :
  (Builtin.append_ #[t,t] ty #[.slice ao len cap,.slice bo 0 c]).run P w = .ok (.slice ao len cap) w:=by
 cases ao<;>cases bo<;>simp[Builtin.append_,run_underlying hu,hd.run_sizeOf w,Builtin.lenOf,Builtin.firstCells,hc,loadCells,loadCellsFrom,storeCells]
theorem sQ{β':Nat→Option Nat}{L':Nat→Prop}{d b:Nat}{ps:List PV}{arr:Array Value}{el:TypeId}(hg:w.heap[b]? = some (.cells arr el (0,0)))
  (hc:∀(j:Nat) p,ps[j]? = some p→∃u,arr[j]? = some u∧u.oneCell'=true∧Rd I w p u) (hb:β' d=some b):RB β' L' I w d (ps.map EV.pv):=by
 refine .inr ⟨b,arr,el,hb,hg,fun j e he => ?_⟩;rw[abR] at he;cases hj:ps[j]? with
 |none=>simp[hj] at he
 |some p =>simp[hj] at he;subst he;exact hc j p hj
theorem vi{r b:Nat}{L:Nat→Prop}{ps:List PV}(h:RB β L I w r (ps.map EV.pv))(hb:β r=some b) :
  ∃arr el,w.heap[b]? = some (.cells arr el (0,0))∧ps.length≤arr.size∧∀(j:Nat) p,ps[j]? = some p→∃u,arr[j]? = some u∧u.oneCell'=true∧Rd I w p u:=by
 obtain⟨arr,el,h1,h2,h3⟩:=h.block hb;refine⟨arr,el,h1,by simpa using h2,fun j p hp=>h3 j (.pv p) (by rw[List.getElem?_map,hp];rfl)⟩
theorem wi(r:Nat)(hr:r<999999)(sc:SC):∀(s:aY),dE r (aY.Gp s r sc)=dE r s
 |[]=>rfl
 |(r',c)::s=>by
  have dx:Nat.blt r 999999=true:=acN hr;simp only[aY.Gp];cases hb:Nat.beq r' r with
  |true=>simp[dE,hb,dx]
  |false=>simp[dE,hb,wi r hr sc s]
theorem x7(r:Nat)(sc:SC)(s:aY):dE r (aY.set s r sc)=dE r s:=by
 unfold aY.set;by_cases hr:r<999999
 ·rw[show Nat.blt r 999999=true from acN hr];exact wi r hr sc s
 ·rw[show Nat.blt r 999999=false from acX.2 (fun h=>hr (abM h))];rfl
theorem lF(hr:dh Γ s a w β I){r d len sz:Nat}{out:List PV}{v:Value}(uG:d<Γ.n)(wj:¬bz Γ.sin d)(wk:¬bz (dE r s.aP) d){ob:Option Nat}
  (hb:∀b,ob=some b→b<w.heap.size∧¬I b∧Γ.Nw b∧∀x,bz (dE r s.aP) x→β x≠some b)
  (HN:RB (fun x=>if x=d then ob else β x) (fun x=>bz (dE r s.aP) x∨x=d) I w d (out.map EV.pv))
  (hv:(ob=none∧len=0∧v = .slice none 0 0)∨∃b c,ob=some b∧v = .slice (some ⟨b,0,none⟩) len c∧len≤c∧∃el n,w.shape? b=some (el,n)∧0+c*sz≤n) :
  Rel Γ ⟨nN (kill r s).env (some d) (.row d 0 len sz),(d,.pure out)::(kill r s).aP⟩ (a.put (some d) v) w:=by
 have h1:=hr.kill r;have qX:d<999999:=ac4 uG Γ.small;have h2:=h1.site (d:=d) (sc := .pure out) qX wk wj (β':=fun x=>if x=d then ob else β x) (fun x hx=>ac3 hx) (fun b fc=>hb b (by simpa using fc)) HN;refine⟨_,_,h2.put (dst:=some d) (fun d' Og=>by injection Og with Og;rw[←Og];exact uG) ⟨(ei qX).2 (.inl rfl),?_⟩⟩;simpa using hv
theorem vj{t e z8:TypeId}{i:TypeInfo}(ht:P.underlying t=some (.slice e))(hi:P.info? e=some i)(ty:TypeId)
  (g k9 uz:Nat) (cur:Array Value) (hg:w.heap[g]? = some (.cells cur z8 (0,0)))
  (ad:Addr) (m c:Nat) (news:List Value) (hl:news.length=m*i.size) (EN:∀j u,news[j]? = some u→w.cell? (ad.add j)=some u) (h1:∀u∈news,u.oneCell'=true)
  (sS:k9+m≤uz) (yU:k9*i.size+news.length≤cur.size) :
  (Builtin.append_ #[t,t] ty #[.slice (some ⟨g,0,none⟩) k9 uz,.slice (some ad) m c]).run P w =
   .ok (.slice (some ⟨g,0,none⟩) (k9+m) uz) (w.setRow g (cur.toList.take (k9*i.size)++news++cur.toList.drop (k9*i.size+news.length)).toArray):=by
 have hf:=run_firstCells_some (P:=P) w i.size m ad m c news hl EN;have bc:=run_storeCells_at P g (k9*i.size) z8 news 0 cur w hg (by simpa using yU) h1;simp only[Nat.add_zero] at bc;simp[Builtin.append_,run_underlying ht,sizeOf,typeInfo,hi,Builtin.lenOf,sS,hf,Addr.add_lit,bc]
def EO(aP:aY)(r:Nat)(e:EV):Option (Nat×List PV×Option (List (List PV))) :=
 match e with
 |.row r2 0 m _=>bif Nat.beq r2 r then none else match aP.get r2 with
  |some (.pure qs)=>some (m,qs,none)
  |_=>none
 |.pv (.list ys)=>some (ys.length,ys.flatten,some ys)
 |_=>none
def EP(m sz:Nat)(qs:List PV):Option (List (List PV))→Prop
 |none=>qs.length=m*sz
 |some ys=>∀row∈ys,row.length=sz
abbrev Pf:=aY→Nat→EV→Option (Nat×List PV×Option (List (List PV)))
def wm(src:Pf)(T:ja)(n:Nat)(o:Oper)(h:Hint)(s:St):Option (St×List Prop) :=
 match o.op,o.dst,h with
 |.call c,some d,.app uA out=>match c.callee,c.args.toList,c.argTypes.toList with
  |.builtin .append,[x,y],[t1,t2]=>bif Nat.beq t1 t2&&Nat.blt d n then
    match T.get t1 with
    |some dt=>match dt.kind with
     |.slice el=>match T.get el,cU s.env x,cU s.env y with
      |some de,some (.row r 0 len sz),some ey=>match s.aP.get r,src s.aP r ey,(kill r s).aP.get d with
       |some (.pure ps),some (m,qs,ys),none=>bif Nat.beq sz de.size&&Nat.ble 1 sz&&Nat.blt r n then
         some (⟨nN (kill r s).env (some d) (.row d 0 uA sz),(d,.pure out)::(kill r s).aP⟩,
          [ps.length=len*sz,EP m sz qs ys,len+m=uA,ps++qs=out,uA*de.bytes≤140737488355328,uA<9223372036854775808])
        else none
       |_,_,_=>none
      |_,_,_=>none
     |_=>none
    |none=>none
   else none
  |_,_,_=>none
 |_,_,_=>none
theorem sV{src:Pf}(HS:∀{β:Nat→Option Nat} {I:Nat→Prop},dh Γ s a w β I→∀{r m sz:Nat} {ey:EV} {v:Value} {qs:List PV} {ys:Option (List (List PV))},src s.aP r ey=some (m,qs,ys)→EP m sz qs ys→RE β (bz s.aP) I w ey v→Src w I v m qs∧qs.length=m*sz)(hT:mm P T)(hs:∀r,bz Γ.sin r→Γ.n≤r)(hr:Rel Γ s a w)(bc:wm src T Γ.n o h s=some (s',ob))(cf:dW ob){K:Act→World→Prop}{Q:Exit→Act→World→Prop}
  (hk:∀a' w',Rel Γ s' a' w'→K a' w'):o.wp P a w K Q:=by
 obtain⟨β,I,hr⟩:=hr;unfold wm at bc;split at bc
 ·rename_i c d uA out pB EM;split at bc
  ·rename_i x y t1 t2 nJ il Gk;cases Gb:(Nat.beq t1 t2&&Nat.blt d Γ.n) with
   |false=>simp[Gb] at bc
   |true =>
    simp only[Gb,cond_true] at bc;simp only[Bool.and_eq_true] at Gb;have dI:t1=t2:=abO Gb.1;have uG:d<Γ.n:=abM Gb.2;subst dI;split at bc
    ·rename_i dt RY;split at bc
     ·rename_i el Eo;obtain⟨un,hu,_,hf⟩:=(hT t1 dt RY).under;rw[Eo] at hf;have hf:un = .slice el:=hf;subst hf;split at bc
      ·rename_i de r len sz ey nL hx hy;split at bc
       ·rename_i ps m qs ys lB fj uF;cases sG:(Nat.beq sz de.size&&Nat.ble 1 sz&&Nat.blt r Γ.n) with
        |false=>simp[sG] at bc
        |true =>
         simp only[sG,cond_true] at bc;simp only[Bool.and_eq_true] at sG;have ji:sz=de.size:=abO sG.1.1;have RZ:1≤sz:=abM sG.1.2;have MS:r<Γ.n:=abM sG.2;injection bc with bc;injection bc with h1 h2
         subst h1;subst h2;obtain⟨g1,cf⟩:=cf.cons;obtain⟨g2,cf⟩:=cf.cons;obtain⟨g3,cf⟩:=cf.cons;obtain⟨g4,cf⟩:=cf.cons;obtain⟨g5,g6⟩:=cf.cons;have g6:uA<9223372036854775808:=g6;subst g3;subst g4;obtain⟨i,hi,Cu,Rm,z,hz,_,yQ,_⟩:=(hT el de nL).info;have hex:=hr.zZ x _ hx;have HO:=hr.zZ y _ hy;obtain⟨we,wg⟩:=hex;have HN:=(hr.aP.1 r _ lB).1;have Pg:¬bz Γ.sin r:=fun h=>by have:=hs r h;omega
         have wj:¬bz Γ.sin d:=fun h=>absurd (hs d h) (acT uG)
         have wk:¬bz (kill r s).aP d:=by unfold bz;rw[uF];simp
         have R0:Src w I (a.eval y) m qs∧qs.length=m*sz:=HS hr fj g2 HO;obtain⟨JZ,ER⟩:=R0;have Ep:∀v' w',(Builtin.append_ #[t1,t1] o.type #[a.eval x,a.eval y]).run P w = .ok v' w'→Rel Γ ⟨nN (kill r s).env (some d) (.row d 0 (len+m) sz),(d,.pure (ps++qs))::(kill r s).aP⟩ (a.put (some d) v') w'→o.wp P a w K Q:=by intro v' w' aJ gW;have mF:=yX il;have wa:=yX Gk;obtain⟨cl,args,FZ⟩:=c;simp only at nJ mF wa;subst nJ;subst mF;subst wa;unfold Oper.wp execOp;simp only[pB,resolve,invoke,builtin,Sem.run_bind,Sem.run_pure,Result.andThen_ok,List.map_toArray,List.map_cons,List.map_nil,aJ];show K (a.put o.dst v') w';rw[EM];exact hk _ _ gW
         have vk:(len+m)*i.bytes≤140737488355328:=by rw[Rm];exact g5
         have Vm:len+m≤maxLen:=by unfold maxLen;omega
         have R1:∀b,β r=some b→∀x,bz (dE r s.aP) x→β x≠some b:=fun b hb x hx e =>(fe.1 hx).2 (hr.aP.2 x r b (fe.1 hx).1 we e hb)
         rcases wg with ⟨Oe,EG,BU⟩|⟨b,cap,lA,BU,IJ,Zy,nx,zW,yU⟩
         ·
          subst EG;have J0:ps=[]:=abT (by simpa using g1);subst J0;rcases JZ with ⟨ao,c2,xp,rfl,rfl⟩|⟨b2,o2,c2,us,xp,zR,uw⟩
          ·refine Ep _ _ (by rw[BU,xp];exact nO hu (hT el de nL) _ none ao 0 0 c2 (abW _)) ?_;exact lF hr (ob:=none) uG wj wk (fun b hb=>by cases hb) (.inl ⟨by simp,rfl⟩) (.inl ⟨rfl,rfl,rfl⟩)
          ·have yT:us.length=m*i.size:=by rw[←uw.1,Cu,←ji];exact ER
           have MT:∀(j:Nat) u,us[j]? = some u→w.cell? ((⟨b2,o2,none⟩:Addr).add j)=some u:=fun j u Dl=>by rw[gw];exact zR j u Dl
           rcases ae0 m with F0|F0
           ·subst F0;have MU:qs=[]:=abT (by simpa using ER);subst MU;refine Ep _ _ (by rw[BU,xp];exact nO hu (hT el de nL) _ none _ 0 0 c2 (abW _)) ?_;exact lF hr (ob:=none) uG wj wk (fun b hb=>by cases hb) (.inl ⟨by simp,rfl⟩) (.inl ⟨rfl,rfl,rfl⟩)
           ·have aJ:=run_append_nil (P:=P) w t1 o.type el i z hu hi hz ⟨b2,o2,none⟩ m c2 us yT MT F0 (by omega) (by simp only[Nat.zero_add] at vk;omega);refine Ep _ _ (by rw[BU,xp];exact aJ) ?_;have wo:dh Γ s a (w.drew.alloc (.cells (us.toArray++Builtin.zeroCells z.cells (grownCap w m 0 el-m)) el)) β I :=
             hr.grow (((yK.refl _ _).drew).alloc (abW _) _) (fun b h=>h) (fun b h => .inl h)
            have qx:(w.drew.alloc (.cells (us.toArray++Builtin.zeroCells z.cells (grownCap w m 0 el-m)) el)).heap[w.heap.size]? = some (.cells (us.toArray++Builtin.zeroCells z.cells (grownCap w m 0 el-m)) el (0,0)):=heap_alloc_new w.drew _;have Aa:=grownCap_ge w m 0 el;have oH:∀(j:Nat) p,(([]:List PV)++qs)[j]? = some p→∃u,(us.toArray++Builtin.zeroCells z.cells (grownCap w m 0 el-m))[j]? = some u∧u.oneCell'=true∧Rd I (w.drew.alloc (.cells (us.toArray++Builtin.zeroCells z.cells (grownCap w m 0 el-m)) el)) p u:=by
             intro j p hp;simp only[List.nil_append] at hp;have hj:j<us.length:=by rw[←uw.1];exact(abL.1 hp).1
             obtain⟨q1,q2⟩:=uw.2 j p us[j] hp (abJ hj);refine⟨us[j],by rw[aea (by simpa using hj)];simp[hj],q2.jt q1,q2.mono (fun _ h=>h) (fun b o hI=>fh (Below.heap_alloc w.drew _ b (hr.ib b hI)) o)⟩
            refine lF wo (ob:=some w.heap.size) uG wj wk (fun b hb => ?_) (sQ qx oH (by simp)) (.inr ⟨w.heap.size,grownCap w m 0 el,rfl,by simp,by simpa using Aa,el,_,by unfold World.shape?;rw[qx],?_⟩)
            ·injection hb with hb;subst hb
             exact⟨by simp,fun hI=>adT _ (hr.ib _ hI),(.inl hr.aW.size),fun x hx e=>adT _ (hr.lb x _ (fe.1 hx).1 e)⟩
            ·simp only[Array.size_append,List.size_toArray,yT,size_zeroCells,yQ,Cu,ji];rw[←acv];have:m+(grownCap w m 0 el-m)=grownCap w m 0 el:=by omega
             rw[this];omega
         ·
          have Ph:Γ.Nw b:=hr.new r b we (.inl Pg) lA;have IK:=((hr.aP.1 r _ lB).2 b lA);obtain⟨arr,z8,hg,MD,vO⟩:=vi HN lA;have J1:w.shape? b=some (z8,arr.size):=by unfold World.shape?;rw[hg]
          have Dt:nx=arr.size:=by rw[J1] at zW;injection zW with zW;injection zW with h1 h2;exact h2.symm
          subst Dt;rcases ae0 m with F0|F0
          ·have xp:∃bo c2,a.eval y = .slice bo 0 c2:=by
            rcases JZ with ⟨ao,c2,xp,_⟩|⟨b2,o2,c2,us,xp,_⟩
            ·exact⟨_,_,xp⟩
            ·exact⟨_,_,by rw[xp,F0]⟩
           obtain⟨bo,c2,xp⟩:=xp;subst F0;have MU:qs=[]:=abT (by simpa using ER);subst MU;refine Ep _ _ (by rw[BU,xp];exact nO hu (hT el de nL) _ _ _ len cap c2 IJ) ?_;exact lF hr (ob:=some b) uG wj wk (fun b' fc=>by injection fc with fc;subst fc;exact⟨IK.1,IK.2,Ph,R1 b lA⟩)
            (sQ hg (fun j p hp=>vO j p (by simpa using hp)) (by simp)) (.inr ⟨b,cap,rfl,rfl,IJ,z8,_,J1,yU⟩)
          ·rcases JZ with ⟨_,_,_,hm,_⟩|⟨b2,o2,c2,us,xp,zR,uw⟩
           ·omega
           have yT:us.length=m*i.size:=by rw[←uw.1,Cu,←ji];exact ER
           have MT:∀(j:Nat) u,us[j]? = some u→w.cell? ((⟨b2,o2,none⟩:Addr).add j)=some u:=fun j u Dl=>by rw[gw];exact zR j u Dl
           have Pj:∀u∈us,u.oneCell'=true:=fun u Dl=>by
            obtain⟨j,hj⟩:=acR.1 Dl;have HP:j<qs.length:=by rw[uw.1];exact(abL.1 hj).1
            obtain⟨q1,q2⟩:=uw.2 j _ u (abJ HP) hj;exact q2.jt q1
           have Pk:len*i.size=ps.length:=by rw[Cu,←ji];exact g1.symm
           have Vn:cap*sz≤arr.size:=by omega
           by_cases sS:len+m≤cap
           ·have J2:len*i.size+us.length≤arr.size:=by
             have h3:(len+m)*sz≤cap*sz:=ac9 _ sS;rw[acv] at h3;rw[yT,Cu,←ji];omega
            have aJ:=vj (P:=P) hu hi o.type b len cap arr hg ⟨b2,o2,none⟩ m c2 us yT MT Pj sS J2;refine Ep _ _ (by rw[BU,xp];exact aJ) ?_;have J3:(arr.toList.take (len*i.size)++us++arr.toList.drop (len*i.size+us.length)).toArray.size=arr.size:=by simp;omega
            have qz:∀j,(arr.toList.take (len*i.size)++us++arr.toList.drop (len*i.size+us.length)).toArray[j]? = if len*i.size≤j∧j<len*i.size+us.length then us[j-len*i.size]? else arr[j]? := by intro j;have:=fY arr.toList (len*i.size) us (by simp;omega) j;unfold dB at this;rw[←ae9] at this;simp only[List.getElem?_toArray];rw[this];simp only[Array.getElem?_toList]
            have ES:∀(j:Nat) p,(ps++qs)[j]? = some p→∃u,(arr.toList.take (len*i.size)++us++arr.toList.drop (len*i.size+us.length)).toArray[j]? = some u∧u.oneCell'=true∧Rd I w p u:=by
             intro j p hp;rw[qz j];rw[acC] at hp;by_cases hj:j<ps.length
             ·rw[ac7 hj] at hp;rw[ac3 (by omega)];exact vO j p hp
             ·rw[ac3 hj] at hp;have Pm:=(abL.1 hp).1;have J4:j-ps.length<us.length:=by rw[←uw.1];exact Pm
              rw[ac7 (by omega),Pk];obtain⟨q1,q2⟩:=uw.2 _ p us[j-ps.length] hp (abJ J4);exact⟨_,abJ J4,q2.jt q1,q2⟩
            have Vo:=hr.write (sc' := .pure (ps++qs)) (ac4 MS Γ.small) lB lA hg J3 (fun j e' gi=>by
             simp only[SC.oe,List.getElem?_map] at gi;cases hp:(ps++qs)[j]? with
             |none=>simp[hp] at gi
             |some p =>simp[hp] at gi;subst gi;exact ES j p hp)
            have Gq:dE r (aY.set s.aP r (.pure (ps++qs)))=dE r s.aP:=x7 r _ s.aP;have Pn:kill r ⟨s.env,aY.set s.aP r (.pure (ps++qs))⟩=kill r s:=by unfold kill;simp only[Gq]
            have J5:=lF Vo (r:=r) (d:=d) (len:=len+m) (sz:=sz) (out:=ps++qs) (v := .slice (some ⟨b,0,none⟩) (len+m) cap) (ob:=some b) uG wj (by rw[Gq];exact wk)
             (fun b' fc=>by
              injection fc with fc;subst fc
              rw[Gq];exact⟨by simpa[World.setRow] using IK.1,IK.2,Ph,R1 b lA⟩)
             (sQ (setRow_heap w b arr _ z8 (0,0) hg) (fun j p hp=>by obtain⟨u,q1,q2,q3⟩:=ES j p hp;exact⟨u,q1,q2,q3.mono (fun _ h=>h) (fun b' o' hI=>fh (setRow_other w b b' _ (fun e=>IK.2 (e ▸ hI))) o')⟩) (by simp))
             (.inr ⟨b,cap,rfl,rfl,sS,z8,arr.size,by rw[rh w b b _ arr z8 (0,0) hg J3];exact J1,yU⟩)
            rw[Pn] at J5;exact J5
           ·have J6:(arr.toList.take ps.length).length=len*i.size:=by simp;omega
            have holds:∀(j:Nat) v,(arr.toList.take ps.length)[j]? = some v→w.cell? ((⟨b,0,none⟩:Addr).add j)=some v:=by
             intro j v hv;rw[gw,acw,cell_of_row w b j arr z8 (0,0) hg];rw[ack] at hv;split at hv
             ·simpa using hv
             ·cases hv
            have aJ:=run_append_grow (P:=P) w t1 o.type el i z hu hi hz ⟨b,0,none⟩ len cap (arr.toList.take ps.length) J6 holds ⟨b2,o2,none⟩ m c2 us yT MT (by omega) (by omega) (growslice_fits (by omega) vk);refine Ep _ _ (by rw[BU,xp];exact aJ) ?_;generalize hW:((arr.toList.take ps.length).toArray++us.toArray++Builtin.zeroCells z.cells (grownCap w (len+m) cap el-(len+m)):Array Value)=narr;have wo:dh Γ s a (w.drew.alloc (.cells narr el)) β I :=
             hr.grow (((yK.refl _ _).drew).alloc (abW _) _) (fun b h=>h) (fun b h => .inl h)
            have qx:(w.drew.alloc (.cells narr el)).heap[w.heap.size]? = some (.cells narr el (0,0)):=heap_alloc_new w.drew _;have Aa:=grownCap_ge w (len+m) cap el;have ET:∀{p:PV} {u:Value},Rd I w p u→Rd I (w.drew.alloc (.cells narr el)) p u:=fun h=>h.mono (fun _ h=>h) (fun b o hI=>fh (Below.heap_alloc w.drew _ b (hr.ib b hI)) o)
            have oH:∀(j:Nat) p,(ps++qs)[j]? = some p→∃u,narr[j]? = some u∧u.oneCell'=true∧Rd I (w.drew.alloc (.cells narr el)) p u:=by
             intro j p hp;have IC:(arr.toList.take ps.length).length=ps.length:=by simp;omega
             have J7:narr[j]? = if j<ps.length then arr[j]? else if j<ps.length+us.length then us[j-ps.length]? else (Builtin.zeroCells z.cells (grownCap w (len+m) cap el-(len+m)))[j-(ps.length+us.length)]? := by
              rw[←hW,adt,adt];simp only[Array.size_append,List.size_toArray,IC,List.getElem?_toArray];by_cases hj:j<ps.length
              ·rw[ac7 (by omega),ac7 hj,ac7 hj,ack,ac7 hj];simp
              ·by_cases Dw:j<ps.length+us.length
               ·rw[ac7 Dw,ac3 hj,ac3 hj,ac7 Dw]
               ·rw[ac3 Dw,ac3 hj,ac3 Dw]
             rw[J7];rw[acC] at hp;by_cases hj:j<ps.length
             ·rw[ac7 hj] at hp ⊢;obtain⟨u,q1,q2,q3⟩:=vO j p hp;exact⟨u,q1,q2,ET q3⟩
             ·rw[ac3 hj] at hp ⊢;have Pm:=(abL.1 hp).1;have J4:j-ps.length<us.length:=by rw[←uw.1];exact Pm
              rw[ac7 (by omega)];obtain⟨q1,q2⟩:=uw.2 _ p us[j-ps.length] hp (abJ J4);exact⟨_,abJ J4,q2.jt q1,ET q2⟩
            refine lF wo (ob:=some w.heap.size) uG wj wk (fun b' fc => ?_) (sQ qx oH (by simp)) (.inr ⟨w.heap.size,grownCap w (len+m) cap el,rfl,rfl,Aa,el,_,by unfold World.shape?;rw[qx],?_⟩)
            ·injection fc with fc;subst fc
             exact⟨by simp,fun hI=>adT _ (hr.ib _ hI),(.inl hr.aW.size),fun x hx e=>adT _ (hr.lb x _ (fe.1 hx).1 e)⟩
            ·rw[←hW];simp only[Array.size_append,List.size_toArray,J6,yT,size_zeroCells,yQ,Cu,ji];rw[←acv,←acv];have:len+m+(grownCap w (len+m) cap el-(len+m))=grownCap w (len+m) cap el:=by omega
             rw[this];omega
       ·cases bc
      ·cases bc
     ·cases bc
    ·cases bc
  ·cases bc
 ·cases bc
theorem Cw{w:World}{I:Nat→Prop}{y:Value}{m sz:Nat}{qs:List PV}(fj:Src w I y m qs)(hl:qs.length=m*sz)(k:Nat)(hk:k≤m) :
  ∃news,bO I w (qs.take (k*sz)) news∧news.length=k*sz∧(∀(P:Program),(Builtin.firstCells sz k y).run P w = .ok news.toArray w)∧∀(P:Program),(Builtin.lenOf y).run P w = .ok m w:=by
 rcases fj with ⟨ao,c,rfl,rfl,rfl⟩|⟨b,o,c,us,rfl,h1,h2⟩
 ·have:k=0:=by omega
  subst this;refine⟨[],⟨by simp,fun j p u h=>by simp at h⟩,by simp,fun P => ?_,fun P=>rfl⟩;cases ao with
  |none=>rfl
  |some a=>simp[Builtin.firstCells,loadCells,loadCellsFrom]
 ·have Yi:us.length=m*sz:=by rw[←h2.1];exact hl
  have hkm:k*sz≤m*sz:=ac9 _ hk;refine⟨us.take (k*sz),⟨by simp;omega,fun j p u hp hu => ?_⟩,by simp;omega,fun P => ?_,fun P=>rfl⟩
  ·rw[ack] at hp hu;split at hp
   ·rename_i hj;rw[ac7 hj] at hu;exact h2.2 j p u hp hu
   ·cases hp
  ·have:=run_loadCells_list (P:=P) w ⟨b,o,none⟩ (us.take (k*sz)) (fun j v hv=>by
    rw[ack] at hv;split at hv
    ·rw[Addr.add_lit];exact h1 j v hv
    ·cases hv)
   rw[ac8,acQ (by omega)] at this;simpa[Builtin.firstCells] using this
theorem Dx{dT sT ty e:TypeId}{i:TypeInfo}(hu:P.underlying dT=some (.slice e))(hi:P.info? e=some i)(g off Po Vp:Nat){cur:Array Value}{z8:TypeId}(hg:w.heap[g]? = some (.cells cur z8 (0,0))){y:Value}{m k:Nat}{qs:List PV}
  (fj:Src w I y m qs) (hl:qs.length=m*i.size) (hk:min m Po=k) (yU:off+k*i.size≤cur.size) :
  ∃news,bO I w (qs.take (k*i.size)) news∧news.length=k*i.size ∧
   (Builtin.copy_ #[dT,sT] ty #[.slice (some ⟨g,off,none⟩) Po Vp,y]).run P w = .ok (goInt k) (w.setRow g (cur.toList.take off++news++cur.toList.drop (off+news.length)).toArray):=by
 obtain⟨news,h1,h2,h3,h4⟩:=Cw fj hl k (by omega);refine⟨news,h1,h2,?_⟩;have bc:=run_storeCells_at P g off z8 news 0 cur w hg (by simp;omega) (fun v hv=>by
  obtain⟨j,hj⟩:=acR.1 hv;have HP:j<(qs.take (k*i.size)).length:=by rw[h1.1];exact(abL.1 hj).1
  obtain⟨k1,k2⟩:=h1.2 j _ v (abJ HP) hj;exact k2.jt k1)
 simp only[Nat.add_zero] at bc;have J8:Nat.min m Po=k:=hk;simp[Builtin.copy_,run_underlying hu,sizeOf,typeInfo,hi,h4 P,J8,h3 P,bc]
def Ab(T:ja)(n:Nat)(o:Oper)(h:Hint)(s:St):Option (St×List Prop) :=
 match o.op,h with
 |.call c,.app k out=>match c.callee,c.args.toList,c.argTypes.toList with
  |.builtin .copy,[x,y],[t1,_]=>bif jC n o.dst then
    match T.get t1 with
    |some dt=>match dt.kind with
     |.slice el=>match T.get el,cU s.env x,cU s.env y with
      |some de,some (.row r off len sz),some ey=>match s.aP.get r,EO s.aP r ey with
       |some (.pure ps),some (m,qs,ys)=>bif Nat.beq sz de.size&&Nat.blt r 999999 then
         some (⟨nN s.env o.dst (.pv (.int .i64 (k:Int))),aY.set s.aP r (.pure out)⟩,
          [EP m sz qs ys,min m len=k,off+k*sz≤ps.length,dB ps off (qs.take (k*sz))=out])
        else none
       |_,_=>none
      |_,_,_=>none
     |_=>none
    |none=>none
   else none
  |_,_,_=>none
 |_,_=>none
theorem Gr{α β:Type}(f:α→β)(cells:List α)(off:Nat)(new:List α):(dB cells off new).map f=dB (cells.map f) off (new.map f):=by simp[dB,List.map_take,List.map_drop]
theorem Ac(hT:mm P T)(hr:Rel Γ s a w)(bc:Ab T Γ.n o h s=some (s',ob))(cf:dW ob){K:Act→World→Prop}{Q:Exit→Act→World→Prop}
  (hk:∀a' w',Rel Γ s' a' w'→K a' w'):o.wp P a w K Q:=by
 obtain⟨β,I,hr⟩:=hr;unfold Ab at bc;split at bc
 ·rename_i c k out pB;split at bc
  ·rename_i x y t1 t2 nJ il Gk;cases hd:jC Γ.n o.dst with
   |false=>simp[hd] at bc
   |true =>
    simp only[hd,cond_true] at bc;split at bc
    ·rename_i dt RY;split at bc
     ·rename_i el Eo;obtain⟨un,hu,_,hf⟩:=(hT t1 dt RY).under;rw[Eo] at hf;have hf:un = .slice el:=hf;subst hf;split at bc
      ·rename_i de r off len sz ey nL hx hy;split at bc
       ·rename_i ps m qs ys lB fj;cases hb20:(Nat.beq sz de.size&&Nat.blt r 999999) with
        |false=>simp[hb20] at bc
        |true =>
         simp only[hb20,cond_true] at bc;rw[abK] at hb20;have sG:=hb20.1;have JY:r<999999:=abM hb20.2;have ji:sz=de.size:=abO sG;injection bc with bc;injection bc with h1 h2
         subst h1;subst h2;obtain⟨g1,cf⟩:=cf.cons;obtain⟨g2,cf⟩:=cf.cons;obtain⟨g3,g4⟩:=cf.cons;have g4:dB ps off (qs.take (k*sz))=out:=g4;obtain⟨i,hi,Ul,_,_⟩:=(hT el de nL).info;obtain⟨cl,args,FZ⟩:=c;have nJ:cl = .builtin .copy:=nJ;subst nJ;have mF:args = #[x,y]:=yX il;have wa:FZ = #[t1,t2]:=yX Gk;subst mF;subst wa;have hS:Src w I (a.eval y) m qs∧qs.length=m*sz:=by
          have Ym:=hr.zZ y _ hy;unfold EO at fj;split at fj
          ·rename_i r2 m2 Jv;cases lA:Nat.beq r2 r with
           |true=>simp[lA] at fj
           |false =>
            simp only[lA,cond_false] at fj;split at fj
            ·rename_i Zz Jw;injection fj with fj;injection fj with e1 e2;injection e2 with e2 e3
             subst e1;subst e2;subst e3;have g1:Zz.length=m2*sz:=g1;exact⟨HQ Ym ((hr.aP.1 r2 _ Jw).1) g1,g1⟩
            ·cases fj
          ·rename_i ZA;injection fj with fj;injection fj with e1 e2;injection e2 with e2 e3
           subst e1;subst e2;subst e3;have g1:∀row∈ZA,row.length=sz:=g1;exact⟨z7 Ym g1,wh g1⟩
          ·cases fj
         obtain⟨we,hv⟩:=hr.zZ x _ hx;have J9:∀v w',(Builtin.copy_ #[t1,t2] o.type #[a.eval x,a.eval y]).run P w = .ok v w'→(execOp a.eval o).run P w = .ok (.value v) w':=by intro v w' aJ;simp[execOp,pB,resolve,invoke,builtin,aJ]
         rcases hv with ⟨Oe,EG,hv⟩|⟨b,cap,hb,hv,hc,ZB,nn,zW,Ve⟩
         ·
          subst EG;have Um:k=0:=by rw[←g2];exact Nat.min_zero m
          subst Um;have J0:ps=[]:=by
           rcases(hr.aP.1 r _ lB).1 with ⟨_,h2⟩|⟨b,arr,elq,hb,_⟩
           ·have h2:ps.map EV.pv=[]:=h2;simpa using h2
           ·rw[Oe] at hb;cases hb
          subst J0;have Vq:out=[]:=by rw[←g4];simp[dB]
          subst Vq;obtain⟨news,_,n2,n3,n4⟩:=Cw hS.1 hS.2 0 (adz _);have EN:news=[]:=abT (by simpa using n2);subst EN;have aJ:(Builtin.copy_ #[t1,t2] o.type #[a.eval x,a.eval y]).run P w = .ok (goInt 0) w:=by rw[hv];simp[Builtin.copy_,run_underlying hu,sizeOf,typeInfo,hi,Ul,←ji,n4 P,n3 P]
          unfold Oper.wp;rw[J9 _ _ aJ];refine hk _ _ (Rel.IL (s:=⟨nN s.env o.dst (.pv (.int .i64 (0:Nat))),s.aP⟩) ⟨fun _=>rfl,fun z => ?_⟩ ⟨β,I,hr.put (eO hd) (Rd.int _ _)⟩);show(aY.set s.aP r (.pure [])).get z=s.aP.get z;rw[aY.lE];split
          ·rename_i hz;rw[hz.1,lB];rfl
          ·rfl
         ·obtain⟨arr,z8,hg,Mp,oH⟩:=(hr.aP.1 r _ lB).1.block hb;have Mp:ps.length≤arr.size:=by simpa[SC.oe] using Mp
          obtain⟨news,n1,n2,n3⟩:=Dx (ty:=o.type) (sT:=t2) (I:=I) hu hi b off len cap hg hS.1 (by rw[Ul,←ji];exact hS.2) g2 (by rw[Ul,←ji];omega);rw[Ul,←ji] at n1 n2;rw[hv] at J9;unfold Oper.wp;rw[J9 _ _ n3];have hlen:(arr.toList.take off++news++arr.toList.drop (off+news.length)).toArray.size=arr.size:=by simp;omega
          have hq:(qs.take (k*sz)).length=k*sz:=n1.1.trans n2;have gW:=hr.write (sc' := .pure out) JY lB hb hg hlen (fun j e he=>by
           have he:(out.map EV.pv)[j]? = some e:=he;rw[←g4,abR,fY _ _ _ (by rw[hq];exact g3),hq] at he;have qz:(arr.toList.take off++news++arr.toList.drop (off+news.length)).toArray[j]? = if off≤j∧j<off+k*sz then news[j-off]? else arr[j]? := by have:=fY arr.toList off news (by simp;omega) j;unfold dB at this;rw[←ae9] at this;simp only[List.getElem?_toArray];rw[this,n2];simp
           rw[qz];by_cases hj:off≤j∧j<off+k*sz
           ·rw[ac7 hj] at he ⊢;cases hp:(qs.take (k*sz))[j-off]? with
            |none=>rw[hp] at he;cases he
            |some p =>
             rw[hp] at he;injection he with he;subst he
             have HP:j-off<news.length:=by rw[n2];omega
             obtain⟨k1,k2⟩:=n1.2 (j-off) p _ hp (abJ HP);exact⟨_,abJ HP,k2.jt k1,k2⟩
           ·rw[ac3 hj] at he ⊢;exact oH j e (by rw[←he];show(ps.map EV.pv)[j]? = _;rw[abR]))
          exact hk _ _ ⟨β,I,gW.put (eO hd) (Rd.int _ _)⟩
       ·cases bc
      ·cases bc
     ·cases bc
    ·cases bc
  ·cases bc
 ·cases bc
theorem Pp(hr:dh Γ s a w β I){r m sz:Nat}{ey:EV}{v:Value}{qs:List PV}{ys:Option (List (List PV))}(fj:EO s.aP r ey=some (m,qs,ys))(g2:EP m sz qs ys)(HO:RE β (bz s.aP) I w ey v):Src w I v m qs∧qs.length=m*sz:=by
 unfold EO at fj;split at fj
 ·rename_i r2 m2 Jv;cases hq:Nat.beq r2 r with
  |true=>simp[hq] at fj
  |false =>
   simp only[hq,cond_false] at fj;split at fj
   ·rename_i RX Un;injection fj with fj;injection fj with e1 fj;injection fj with e2 e3
    subst e1;subst e2;subst e3;have Ad:RX.length=m2*sz:=g2;exact⟨HQ HO (hr.aP.1 r2 _ Un).1 Ad,Ad⟩
   ·cases fj
 ·rename_i Yn;injection fj with fj;injection fj with e1 fj;injection fj with e2 e3
  subst e1;subst e2;subst e3;exact⟨z7 HO g2,wh g2⟩
 ·cases fj
def HU(T:ja)(n:Nat)(o:Oper)(h:Hint)(s:St):Option (St×List Prop):=wm EO T n o h s
theorem B6(hT:mm P T)(hs:∀r,bz Γ.sin r→Γ.n≤r)(hr:Rel Γ s a w)(bc:HU T Γ.n o h s=some (s',ob))(cf:dW ob){K:Act→World→Prop}{Q:Exit→Act→World→Prop}
  (hk:∀a' w',Rel Γ s' a' w'→K a' w'):o.wp P a w K Q:=sV (fun hr=>Pp hr) hT hs hr bc cf hk
def Gs:Pf:=fun aP r e =>
 match e with
 |.row r2 off m Jv=>bif Nat.beq r2 r then none else match aP.get r2 with
  |some (.pure qs)=>some (m,(qs.drop off).take (m*Jv),none)
  |_=>none
 |.pv (.list ys)=>some (ys.length,ys.flatten,some ys)
 |_=>none
theorem Ka{r off m sz Jv:Nat}{v:Value}{L:Nat→Prop}{qs:List PV}(hv:RE β L I w (.row r off m Jv) v)(hb:RB β L I w r (qs.map EV.pv))(hl:((qs.drop off).take (m*Jv)).length=m*sz):Src w I v m ((qs.drop off).take (m*Jv)):=by
 obtain⟨_,⟨hn,rfl,rfl⟩|⟨b,c,lA,rfl,_⟩⟩:=hv
 ·exact .inl ⟨none,0,rfl,rfl,by simp⟩
 ·obtain⟨arr,el,hg,Mp,hc⟩:=hb.block lA;refine .inr ⟨b,off,c,(arr.toList.drop off).take ((qs.drop off).take (m*Jv)).length,rfl,fun j u hu => ?_,?_,fun j p u hp hu => ?_⟩
  ·rw[ack] at hu;split at hu
   ·rw[acq] at hu;rw[cell_of_row w b (off+j) arr el (0,0) hg];simpa using hu
   ·cases hu
  ·have hq:qs.length≤arr.size:=by simpa using Mp
   simp only[List.length_take,List.length_drop,Array.length_toList];omega
  ·rw[ack] at hp hu;split at hu
   ·split at hp
    ·rw[acq] at hp hu;obtain⟨u',g1,g2,g3⟩:=hc (off+j) (.pv p) (by rw[abR,hp];rfl);have:u'=u:=by simpa[g1] using hu
     subst this;exact⟨PV.kT g3 g2,g3⟩
    ·cases hp
   ·cases hu
theorem MV(hr:dh Γ s a w β I){r m sz:Nat}{ey:EV}{v:Value}{qs:List PV}{ys:Option (List (List PV))}(fj:Gs s.aP r ey=some (m,qs,ys))(g2:EP m sz qs ys)(HO:RE β (bz s.aP) I w ey v):Src w I v m qs∧qs.length=m*sz:=by
 unfold Gs at fj;split at fj
 ·rename_i r2 off m2 Jv;cases hq:Nat.beq r2 r with
  |true=>simp[hq] at fj
  |false =>
   simp only[hq,cond_false] at fj;split at fj
   ·rename_i RX Un;injection fj with fj;injection fj with e1 fj;injection fj with e2 e3
    subst e1;subst e2;subst e3;have Ad:((RX.drop off).take (m2*Jv)).length=m2*sz:=g2;exact⟨Ka HO (hr.aP.1 r2 _ Un).1 Ad,Ad⟩
   ·cases fj
 ·rename_i Yn;injection fj with fj;injection fj with e1 fj;injection fj with e2 e3
  subst e1;subst e2;subst e3;exact⟨z7 HO g2,wh g2⟩
 ·cases fj
theorem Rel.cut(hr:Rel Γ s a w){r k:Nat}{ps:List PV}(lB:s.aP.get r=some (.pure ps)):Rel Γ ⟨s.env,aY.set s.aP r (.pure (ps.take k))⟩ a w:=by
 obtain⟨β,I,hr⟩:=hr;have hL:∀x,bz s.aP x→bz (aY.set s.aP r (.pure (ps.take k))) x:=fun x hx=>gx.2 hx
 refine⟨β,I,fun t e he=>(hr.env t e he).mono (fun _ _=>rfl) hL (fun _ h=>h) (fun _ _ _=>rfl) (fun _ _ _ _=>rfl),⟨fun x sc hx => ?_,fun x y b hx hy=>hr.aP.2 x y b (gx.1 hx) (gx.1 hy)⟩,
  fun x hx=>hr.par x (gx.1 hx),fun x b hx=>hr.new x b (gx.1 hx),hr.ib,hr.ii,hr.aW,hr.size,hr.defers⟩
 have hx:(aY.set s.aP r (.pure (ps.take k))).get x=some sc:=hx;rw[aY.lE] at hx;by_cases B4:x=r∧r<999999
 ·obtain⟨rfl,JY⟩:=B4;rw[ac7 ⟨rfl,JY⟩,lB] at hx;simp only[Option.map_some,Option.some.injEq] at hx;subst hx;obtain⟨k1,k2⟩:=hr.aP.1 x _ lB;refine⟨?_,k2⟩;rcases k1 with ⟨c1,c2⟩|⟨b,arr,el,c1,c2,c3⟩
  ·have c2:ps.map EV.pv=[]:=c2;exact .inl ⟨c1,by show(ps.take k).map EV.pv=[];rw[adA,c2];simp⟩
  ·refine .inr ⟨b,arr,el,c1,c2,fun i e he => ?_⟩;have he:((ps.take k).map EV.pv)[i]? = some e:=he;rw[adA] at he;have cT:=(abL.1 he).1;rw[ac8] at cT;rw[aeg (by omega)] at he;obtain⟨u,d1,d2,d3⟩:=c3 i e he;exact⟨u,d1,d2,d3.mono (fun _ _=>rfl) hL (fun _ h=>h) (fun _ _ _=>rfl) (fun _ _ _ _=>rfl)⟩
 ·rw[ac3 B4] at hx;obtain⟨k1,k2⟩:=hr.aP.1 x sc hx;exact⟨k1.mono rfl (fun _ _=>rfl) (fun _ _=>rfl) hL (fun _ h=>h) (fun _ _ _=>rfl) (fun _ _ _ _=>rfl),k2⟩
end
end Go.Proofs.YtneklnlpgfeplaaGreat.Sym
