/- Lemmas for the statements of this seat. -/
import Derived.Test.YtcpnocgollpbhaaGreatDoorW10
namespace Go.Proofs.YtcpnocgollpbhaaGreatDoor.Sym
open Go Go.RowKit
section
variable {P:Program} {T:kL} {Γ:Ctx} {s s':St} {a:Act} {w:World} {β:Nat→Option Nat} {I:Nat→Prop} {o:Oper} {h:Hint} {ob:List Prop}
theorem Bk{b sz:Nat} : ∀(ys:List (List PV)) (o:Nat) (f:Nat→Nat→Value),(∀row∈ys,row.length=sz) →
  (∀(i j:Nat) row x,ys[i]? = some row→row[j]? = some x→w.cell? ⟨b,o+(i*sz+j),none⟩=some (f i j)∧x.one=true∧Rd I w x (f i j)) →
  ∃us:List Value,(∀(j:Nat) u,us[j]? = some u→w.cell? ⟨b,o+j,none⟩=some u)∧bE I w ys.flatten us
 |[],o,f,_,_=>⟨[],fun j u h=>by simp at h,rfl,fun j c u h=>by simp at h⟩
 |row::ys,o,f,hl,h=>by
  have ym:row.length=sz:=hl row (by simp);obtain⟨us,h1,h2⟩:=Bk ys (o+sz) (fun i j=>f (i+1) j) (fun r hr=>hl r (by simp[hr])) (fun i j r x hi hj=>by have:=h (i+1) j r x (by simpa using hi) hj;rw[show o+sz+(i*sz+j)=o+((i+1)*sz+j) from by rw[agF];omega];exact this)
  have oX:∀(j:Nat),((List.range sz).map (f 0)++us)[j]? = if j<sz then some (f 0 j) else us[j-sz]? := by
   intro j;rw[agZ];simp only[List.length_map,List.length_range];by_cases hj:j<sz
   ·rw[ag9 hj,ag9 hj,afT,ahF hj];rfl
   ·rw[ag7 hj,ag7 hj]
  refine⟨(List.range sz).map (f 0)++us,fun j u hu => ?_,by simp[ym];simpa using h2.1,fun j c u hc hu => ?_⟩
  ·rw[oX] at hu;by_cases hj:j<sz
   ·rw[ag9 hj] at hu;injection hu with hu;subst hu
    have hx:row[j]? = some row[j]:=afO (by omega);have:=(h 0 j row _ rfl hx).1;simpa using this
   ·rw[ag7 hj] at hu;have:=h1 _ u hu;rw[show o+sz+(j-sz)=o+j from by omega] at this;exact this
  ·rw[oX] at hu;rw[ahm,agZ] at hc;by_cases hj:j<sz
   ·rw[ag9 hj] at hu;rw[ag9 (by omega)] at hc;injection hu with hu;subst hu
    exact(h 0 j row c rfl hc).2
   ·rw[ag7 hj] at hu;rw[ag7 (by omega),ym] at hc;exact h2.2 _ c u hc hu
theorem wZ{sz:Nat} : ∀{ys:List (List PV)},(∀row∈ys,row.length=sz)→ys.flatten.length=ys.length*sz
 |[],_=>by simp
 |row::ys,h=>by have:=wZ (sz:=sz) (ys:=ys) (fun r hr=>h r (by simp[hr]));have:=h row (by simp);simp only[List.flatten_cons,List.length_append,List.length_cons,Nat.succ_mul];omega
def Src(w:World)(I:Nat→Prop)(y:Value)(m:Nat)(qs:List PV):Prop :=
 (∃ao c,y = .slice ao 0 c∧m=0∧qs=[])∨∃b o c us,y = .slice (some ⟨b,o,none⟩) m c∧(∀(j:Nat) u,us[j]? = some u→w.cell? ⟨b,o+j,none⟩=some u)∧bE I w qs us
theorem Bl{ys:List (List PV)}{v:Value}{sz:Nat}(hv:Rd I w (.list ys) v)(hs:∀row∈ys,row.length=sz):Src w I v ys.length ys.flatten:=by
 cases hv with
 |nil ao c=>exact .inl ⟨ao,c,rfl,rfl,rfl⟩
 |list _ b o c s f hc hb Wv ho hh =>
  have lT:∀row∈ys,row.length=s:=fun row hr=>by obtain⟨i,hi⟩:=ahJ.1 hr;exact Wv i row hi
  obtain⟨us,h1,h2⟩:=Bk (w:=w) (I:=I) (b:=b) (sz:=s) ys o f lT (fun i j row x hi hj=>⟨(ho i j row x hi hj).2,(ho i j row x hi hj).1,hh i j row x hi hj⟩);exact .inr ⟨b,o,c,us,rfl,h1,h2⟩
theorem KR{r m sz Nx:Nat}{v:Value}{L:Nat→Prop}{qs:List PV}(hv:RE β L I w (.row r 0 m Nx) v)(hb:RB β L I w r (qs.map EV.pv))(hl:qs.length=m*sz):Src w I v m qs:=by
 obtain⟨_,⟨hn,rfl,rfl⟩|⟨b,c,ot,rfl,_⟩⟩:=hv
 ·exact .inl ⟨none,0,rfl,rfl,afP (by simpa using hl)⟩
 ·obtain⟨arr,el,hg,SP,hc⟩:=hb.block ot;refine .inr ⟨b,0,c,arr.toList.take qs.length,rfl,fun j u hu => ?_,by simp at SP ⊢;omega,fun j p u hp hu => ?_⟩
  ·rw[agG] at hu;split at hu
   ·rw[agQ,cell_of_row w b j arr el (0,0) hg];simpa using hu
   ·cases hu
  ·rw[agG] at hu;split at hu
   ·obtain⟨u',g1,g2,g3⟩:=hc j (.pv p) (by rw[afT,hp];rfl);have:u'=u:=by simpa[g1] using hu
    subst this;exact⟨PV.lI g3 g2,g3⟩
   ·cases hu
theorem oa{t e:TypeId}{de:TD}(hu:P.underlying t=some (.slice e))(hd:pJ P e de)(ty:TypeId)(ao bo:Option Addr)(len cap c:Nat)(hc:len≤cap) :
  (Builtin.append_ #[t,t] ty #[.slice ao len cap,.slice bo 0 c]).run P w = .ok (.slice ao len cap) w:=by
 cases ao<;>cases bo<;>simp[Builtin.append_,run_underlying hu,hd.run_sizeOf w,Builtin.lenOf,Builtin.firstCells,hc,loadCells,loadCellsFrom,storeCells]
theorem tt{β':Nat→Option Nat}{L':Nat→Prop}{d b:Nat}{ps:List PV}{arr:Array Value}{el:TypeId}(hg:w.heap[b]? = some (.cells arr el (0,0)))
  (hc:∀(j:Nat) p,ps[j]? = some p→∃u,arr[j]? = some u∧u.oneCell'=true∧Rd I w p u) (hb:β' d=some b):RB β' L' I w d (ps.map EV.pv):=by
 refine .inr ⟨b,arr,el,hb,hg,fun j e he => ?_⟩;rw[afT] at he;cases hj:ps[j]? with
 |none=>simp[hj] at he
 |some p =>simp[hj] at he;subst he;exact hc j p hj
theorem vG{r b:Nat}{L:Nat→Prop}{ps:List PV}(h:RB β L I w r (ps.map EV.pv))(hb:β r=some b) :
  ∃arr el,w.heap[b]? = some (.cells arr el (0,0))∧ps.length≤arr.size∧∀(j:Nat) p,ps[j]? = some p→∃u,arr[j]? = some u∧u.oneCell'=true∧Rd I w p u:=by
 obtain⟨arr,el,h1,h2,h3⟩:=h.block hb;refine⟨arr,el,h1,by simpa using h2,fun j p hp=>h3 j (.pv p) (by rw[List.getElem?_map,hp];rfl)⟩
theorem w5(r:Nat)(hr:r<999999)(sc:SC):∀(s:aS),dx r (aS.Jz s r sc)=dx r s
 |[]=>rfl
 |(r',c)::s=>by
  have dI:Nat.blt r 999999=true:=ahi hr;simp only[aS.Jz];cases hb:Nat.beq r' r with
  |true=>simp[dx,hb,dI]
  |false=>simp[dx,hb,w5 r hr sc s]
theorem zt(r:Nat)(sc:SC)(s:aS):dx r (aS.set s r sc)=dx r s:=by
 unfold aS.set;by_cases hr:r<999999
 ·rw[show Nat.blt r 999999=true from ahi hr];exact w5 r hr sc s
 ·rw[show Nat.blt r 999999=false from ahv.2 (fun h=>hr (afS h))];rfl
theorem l9(hr:df Γ s a w β I){r d len sz:Nat}{out:List PV}{v:Value}(vf:d<Γ.n)(w6:¬bB Γ.sin d)(w7:¬bB (dx r s.aG) d){ob:Option Nat}
  (hb:∀b,ob=some b→b<w.heap.size∧¬I b∧Γ.Nw b∧∀x,bB (dx r s.aG) x→β x≠some b)
  (KP:RB (fun x=>if x=d then ob else β x) (fun x=>bB (dx r s.aG) x∨x=d) I w d (out.map EV.pv))
  (hv:(ob=none∧len=0∧v = .slice none 0 0)∨∃b c,ob=some b∧v = .slice (some ⟨b,0,none⟩) len c∧len≤c∧∃el n,w.shape? b=some (el,n)∧0+c*sz≤n) :
  Rel Γ ⟨oY (kill r s).env (some d) (.row d 0 len sz),(d,.pure out)::(kill r s).aG⟩ (a.put (some d) v) w:=by
 have h1:=hr.kill r;have s8:d<999999:=agA vf Γ.small;have h2:=h1.site (d:=d) (sc := .pure out) s8 w7 w6 (β':=fun x=>if x=d then ob else β x) (fun x hx=>ag7 hx) (fun b fw=>hb b (by simpa using fw)) KP;refine⟨_,_,h2.put (dst:=some d) (fun d' SO=>by injection SO with SO;rw[←SO];exact vf) ⟨(dL s8).2 (.inl rfl),?_⟩⟩;simpa using hv
theorem vH{t e Bm:TypeId}{i:TypeInfo}(ht:P.underlying t=some (.slice e))(hi:P.info? e=some i)(ty:TypeId)
  (g lU uW:Nat) (cur:Array Value) (hg:w.heap[g]? = some (.cells cur Bm (0,0)))
  (ad:Addr) (m c:Nat) (news:List Value) (hl:news.length=m*i.size) (N8:∀j u,news[j]? = some u→w.cell? (ad.add j)=some u) (h1:∀u∈news,u.oneCell'=true)
  (tu:lU+m≤uW) (q8:lU*i.size+news.length≤cur.size) :
  (Builtin.append_ #[t,t] ty #[.slice (some ⟨g,0,none⟩) lU uW,.slice (some ad) m c]).run P w =
   .ok (.slice (some ⟨g,0,none⟩) (lU+m) uW) (w.setRow g (cur.toList.take (lU*i.size)++news++cur.toList.drop (lU*i.size+news.length)).toArray):=by
 have hf:=run_firstCells_some (P:=P) w i.size m ad m c news hl N8;have aK:=run_storeCells_at P g (lU*i.size) Bm news 0 cur w hg (by simpa using q8) h1;simp only[Nat.add_zero] at aK;simp[Builtin.append_,run_underlying ht,sizeOf,typeInfo,hi,Builtin.lenOf,tu,hf,Addr.add_lit,aK]
def Hz(aG:aS)(r:Nat)(e:EV):Option (Nat×List PV×Option (List (List PV))) :=
 match e with
 |.row r2 0 m _=>bif Nat.beq r2 r then none else match aG.get r2 with
  |some (.pure qs)=>some (m,qs,none)
  |_=>none
 |.pv (.list ys)=>some (ys.length,ys.flatten,some ys)
 |_=>none
def HA(m sz:Nat)(qs:List PV):Option (List (List PV))→Prop
 |none=>qs.length=m*sz
 |some ys=>∀row∈ys,row.length=sz
abbrev TZ:=aS→Nat→EV→Option (Nat×List PV×Option (List (List PV)))
def w8(src:TZ)(T:kL)(n:Nat)(o:Oper)(h:Hint)(s:St):Option (St×List Prop) :=
 match o.op,o.dst,h with
 |.call c,some d,.app uX out=>match c.callee,c.args.toList,c.argTypes.toList with
  |.builtin .append,[x,y],[t1,t2]=>bif Nat.beq t1 t2&&Nat.blt d n then
    match T.get t1 with
    |some dt=>match dt.kind with
     |.slice el=>match T.get el,dh s.env x,dh s.env y with
      |some de,some (.row r 0 len sz),some ey=>match s.aG.get r,src s.aG r ey,(kill r s).aG.get d with
       |some (.pure ps),some (m,qs,ys),none=>bif Nat.beq sz de.size&&Nat.ble 1 sz&&Nat.blt r n then
         some (⟨oY (kill r s).env (some d) (.row d 0 uX sz),(d,.pure out)::(kill r s).aG⟩,
          [ps.length=len*sz,HA m sz qs ys,len+m=uX,ps++qs=out,uX*de.bytes≤140737488355328,uX<9223372036854775808])
        else none
       |_,_,_=>none
      |_,_,_=>none
     |_=>none
    |none=>none
   else none
  |_,_,_=>none
 |_,_,_=>none
theorem tv{src:TZ}(HS:∀{β:Nat→Option Nat} {I:Nat→Prop},df Γ s a w β I→∀{r m sz:Nat} {ey:EV} {v:Value} {qs:List PV} {ys:Option (List (List PV))},src s.aG r ey=some (m,qs,ys)→HA m sz qs ys→RE β (bB s.aG) I w ey v→Src w I v m qs∧qs.length=m*sz)(hT:n8 P T)(hs:∀r,bB Γ.sin r→Γ.n≤r)(hr:Rel Γ s a w)(aK:w8 src T Γ.n o h s=some (s',ob))(bT:dK ob){K:Act→World→Prop}{Q:Exit→Act→World→Prop}
  (hk:∀a' w',Rel Γ s' a' w'→K a' w'):o.wp P a w K Q:=by
 obtain⟨β,I,hr⟩:=hr;unfold w8 at aK;split at aK
 ·rename_i c d uX out uV Hy;split at aK
  ·rename_i x y t1 t2 rH ky Ju;cases td:(Nat.beq t1 t2&&Nat.blt d Γ.n) with
   |false=>simp[td] at aK
   |true =>
    simp only[td,cond_true] at aK;simp only[Bool.and_eq_true] at td;have iC:t1=t2:=ag0 td.1;have vf:d<Γ.n:=afS td.2;subst iC;split at aK
    ·rename_i dt Wx;split at aK
     ·rename_i el My;obtain⟨un,hu,_,hf⟩:=(hT t1 dt Wx).under;rw[My] at hf;have hf:un = .slice el:=hf;subst hf;split at aK
      ·rename_i de r len sz ey oW hx hy;split at aK
       ·rename_i ps m qs ys oz fe ve;cases s7:(Nat.beq sz de.size&&Nat.ble 1 sz&&Nat.blt r Γ.n) with
        |false=>simp[s7] at aK
        |true =>
         simp only[s7,cond_true] at aK;simp only[Bool.and_eq_true] at s7;have lT:sz=de.size:=ag0 s7.1.1;have Wy:1≤sz:=afS s7.1.2;have Rc:r<Γ.n:=afS s7.2;injection aK with aK;injection aK with h1 h2
         subst h1;subst h2;obtain⟨g1,bT⟩:=bT.cons;obtain⟨g2,bT⟩:=bT.cons;obtain⟨g3,bT⟩:=bT.cons;obtain⟨g4,bT⟩:=bT.cons;obtain⟨g5,g6⟩:=bT.cons;have g6:uX<9223372036854775808:=g6;subst g3;subst g4;obtain⟨i,hi,D8,Wa,z,hz,_,Hf,_⟩:=(hT el de oW).info;have hex:=hr.G7 x _ hx;have KQ:=hr.G7 y _ hy;obtain⟨yi,ym⟩:=hex;have KP:=(hr.aG.1 r _ oz).1;have T1:¬bB Γ.sin r:=fun h=>by have:=hs r h;omega
         have w6:¬bB Γ.sin d:=fun h=>absurd (hs d h) (ahC vf)
         have w7:¬bB (kill r s).aG d:=by unfold bB;rw[ve];simp
         have Wz:Src w I (a.eval y) m qs∧qs.length=m*sz:=HS hr fe g2 KQ;obtain⟨N9,Ea⟩:=Wz;have Ny:∀v' w',(Builtin.append_ #[t1,t1] o.type #[a.eval x,a.eval y]).run P w = .ok v' w'→Rel Γ ⟨oY (kill r s).env (some d) (.row d 0 (len+m) sz),(d,.pure (ps++qs))::(kill r s).aG⟩ (a.put (some d) v') w'→o.wp P a w K Q:=by intro v' w' ar kC;have mX:=Ak ky;have wW:=Ak Ju;obtain⟨cl,args,N4⟩:=c;simp only at rH mX wW;subst rH;subst mX;subst wW;unfold Oper.wp execOp;simp only[uV,resolve,invoke,builtin,Sem.run_bind,Sem.run_pure,Result.andThen_ok,List.map_toArray,List.map_cons,List.map_nil,ar];show K (a.put o.dst v') w';rw[Hy];exact hk _ _ kC
         have Bn:(len+m)*i.bytes≤140737488355328:=by rw[Wa];exact g5
         have yn:len+m≤maxLen:=by unfold maxLen;omega
         have WA:∀b,β r=some b→∀x,bB (dx r s.aG) x→β x≠some b:=fun b hb x hx e =>(eV.1 hx).2 (hr.aG.2 x r b (eV.1 hx).1 yi e hb)
         rcases ym with ⟨SM,Hp,Dm⟩|⟨b,cap,ot,Dm,Q3,elx,nx,D7,q8⟩
         ·
          subst Hp;have Oa:ps=[]:=afP (by simpa using g1);subst Oa;rcases N9 with ⟨ao,c2,yf,rfl,rfl⟩|⟨b2,o2,c2,us,yf,Dx,uT⟩
          ·refine Ny _ _ (by rw[Dm,yf];exact oa hu (hT el de oW) _ none ao 0 0 c2 (afY _)) ?_;exact l9 hr (ob:=none) vf w6 w7 (fun b hb=>by cases hb) (.inl ⟨by simp,rfl⟩) (.inl ⟨rfl,rfl,rfl⟩)
          ·have yg:us.length=m*i.size:=by rw[←uT.1,D8,←lT];exact Ea
           have Re:∀(j:Nat) u,us[j]? = some u→w.cell? ((⟨b2,o2,none⟩:Addr).add j)=some u:=fun j u Jj=>by rw[gD];exact Dx j u Jj
           rcases aiB m with Jb|Jb
           ·subst Jb;have o4:qs=[]:=afP (by simpa using Ea);subst o4;refine Ny _ _ (by rw[Dm,yf];exact oa hu (hT el de oW) _ none _ 0 0 c2 (afY _)) ?_;exact l9 hr (ob:=none) vf w6 w7 (fun b hb=>by cases hb) (.inl ⟨by simp,rfl⟩) (.inl ⟨rfl,rfl,rfl⟩)
           ·have ar:=run_append_nil (P:=P) w t1 o.type el i z hu hi hz ⟨b2,o2,none⟩ m c2 us yg Re Jb (by omega) (by simp only[Nat.zero_add] at Bn;omega);refine Ny _ _ (by rw[Dm,yf];exact ar) ?_;have Bo:df Γ s a (w.drew.alloc (.cells (us.toArray++Builtin.zeroCells z.cells (grownCap w m 0 el-m)) el)) β I :=
             hr.grow (((Ds.refl _ _).drew).alloc (afY _) _) (fun b h=>h) (fun b h => .inl h)
            have qZ:(w.drew.alloc (.cells (us.toArray++Builtin.zeroCells z.cells (grownCap w m 0 el-m)) el)).heap[w.heap.size]? = some (.cells (us.toArray++Builtin.zeroCells z.cells (grownCap w m 0 el-m)) el (0,0)):=heap_alloc_new w.drew _;have DD:=grownCap_ge w m 0 el;have o0:∀(j:Nat) p,(([]:List PV)++qs)[j]? = some p→∃u,(us.toArray++Builtin.zeroCells z.cells (grownCap w m 0 el-m))[j]? = some u∧u.oneCell'=true∧Rd I (w.drew.alloc (.cells (us.toArray++Builtin.zeroCells z.cells (grownCap w m 0 el-m)) el)) p u:=by
             intro j p hp;simp only[List.nil_append] at hp;have hj:j<us.length:=by rw[←uT.1];exact(afQ.1 hp).1
             obtain⟨q1,q2⟩:=uT.2 j p us[j] hp (afO hj);refine⟨us[j],by rw[aiN (by simpa using hj)];simp[hj],q2.j9 q1,q2.mono (fun _ h=>h) (fun b o hI=>hZ (Below.heap_alloc w.drew _ b (hr.ib b hI)) o)⟩
            refine l9 Bo (ob:=some w.heap.size) vf w6 w7 (fun b hb => ?_) (tt qZ o0 (by simp)) (.inr ⟨w.heap.size,grownCap w m 0 el,rfl,by simp,by simpa using DD,el,_,by unfold World.shape?;rw[qZ],?_⟩)
            ·injection hb with hb;subst hb
             exact⟨by simp,fun hI=>ais _ (hr.ib _ hI),(.inl hr.aH.size),fun x hx e=>ais _ (hr.lb x _ (eV.1 hx).1 e)⟩
            ·simp only[Array.size_append,List.size_toArray,yg,size_zeroCells,Hf,D8,lT];rw[←agF];have:m+(grownCap w m 0 el-m)=grownCap w m 0 el:=by omega
             rw[this];omega
         ·
          have QJ:Γ.Nw b:=hr.new r b yi (.inl T1) ot;have Mw:=((hr.aG.1 r _ oz).2 b ot);obtain⟨arr,Bm,hg,Fe,Ag⟩:=vG KP ot;have T2:w.shape? b=some (Bm,arr.size):=by unfold World.shape?;rw[hg]
          have Fj:nx=arr.size:=by rw[T2] at D7;injection D7 with D7;injection D7 with h1 h2;exact h2.symm
          subst Fj;rcases aiB m with Jb|Jb
          ·have yf:∃bo c2,a.eval y = .slice bo 0 c2:=by
            rcases N9 with ⟨ao,c2,yf,_⟩|⟨b2,o2,c2,us,yf,_⟩
            ·exact⟨_,_,yf⟩
            ·exact⟨_,_,by rw[yf,Jb]⟩
           obtain⟨bo,c2,yf⟩:=yf;subst Jb;have o4:qs=[]:=afP (by simpa using Ea);subst o4;refine Ny _ _ (by rw[Dm,yf];exact oa hu (hT el de oW) _ _ _ len cap c2 Q3) ?_;exact l9 hr (ob:=some b) vf w6 w7 (fun b' fw=>by injection fw with fw;subst fw;exact⟨Mw.1,Mw.2,QJ,WA b ot⟩)
            (tt hg (fun j p hp=>Ag j p (by simpa using hp)) (by simp)) (.inr ⟨b,cap,rfl,rfl,Q3,Bm,_,T2,q8⟩)
          ·rcases N9 with ⟨_,_,_,hm,_⟩|⟨b2,o2,c2,us,yf,Dx,uT⟩
           ·omega
           have yg:us.length=m*i.size:=by rw[←uT.1,D8,←lT];exact Ea
           have Re:∀(j:Nat) u,us[j]? = some u→w.cell? ((⟨b2,o2,none⟩:Addr).add j)=some u:=fun j u Jj=>by rw[gD];exact Dx j u Jj
           have T3:∀u∈us,u.oneCell'=true:=fun u Jj=>by
            obtain⟨j,hj⟩:=ahJ.1 Jj;have QI:j<qs.length:=by rw[uT.1];exact(afQ.1 hj).1
            obtain⟨q1,q2⟩:=uT.2 j _ u (afO QI) hj;exact q2.j9 q1
           have T4:len*i.size=ps.length:=by rw[D8,←lT];exact g1.symm
           have Zo:cap*sz≤arr.size:=by omega
           by_cases tu:len+m≤cap
           ·have Ob:len*i.size+us.length≤arr.size:=by
             have h3:(len+m)*sz≤cap*sz:=afU _ tu;rw[agF] at h3;rw[yg,D8,←lT];omega
            have ar:=vH (P:=P) hu hi o.type b len cap arr hg ⟨b2,o2,none⟩ m c2 us yg Re T3 tu Ob;refine Ny _ _ (by rw[Dm,yf];exact ar) ?_;have Oc:(arr.toList.take (len*i.size)++us++arr.toList.drop (len*i.size+us.length)).toArray.size=arr.size:=by simp;omega
            have oX:∀j,(arr.toList.take (len*i.size)++us++arr.toList.drop (len*i.size+us.length)).toArray[j]? = if len*i.size≤j∧j<len*i.size+us.length then us[j-len*i.size]? else arr[j]? := by intro j;have:=jN arr.toList (len*i.size) us (by simp;omega) j;unfold eP at this;rw[←ahK] at this;simp only[List.getElem?_toArray];rw[this];simp only[Array.getElem?_toList]
            have HB:∀(j:Nat) p,(ps++qs)[j]? = some p→∃u,(arr.toList.take (len*i.size)++us++arr.toList.drop (len*i.size+us.length)).toArray[j]? = some u∧u.oneCell'=true∧Rd I w p u:=by
             intro j p hp;rw[oX j];rw[agZ] at hp;by_cases hj:j<ps.length
             ·rw[ag9 hj] at hp;rw[ag7 (by omega)];exact Ag j p hp
             ·rw[ag7 hj] at hp;have T5:=(afQ.1 hp).1;have Od:j-ps.length<us.length:=by rw[←uT.1];exact T5
              rw[ag9 (by omega),T4];obtain⟨q1,q2⟩:=uT.2 _ p us[j-ps.length] hp (afO Od);exact⟨_,afO Od,q2.j9 q1,q2⟩
            have Zp:=hr.write (sc' := .pure (ps++qs)) (agA Rc Γ.small) oz ot hg Oc (fun j e' gQ=>by
             simp only[SC.rI,List.getElem?_map] at gQ;cases hp:(ps++qs)[j]? with
             |none=>simp[hp] at gQ
             |some p =>simp[hp] at gQ;subst gQ;exact HB j p hp)
            have JA:dx r (aS.set s.aG r (.pure (ps++qs)))=dx r s.aG:=zt r _ s.aG;have T6:kill r ⟨s.env,aS.set s.aG r (.pure (ps++qs))⟩=kill r s:=by unfold kill;simp only[JA]
            have Oe:=l9 Zp (r:=r) (d:=d) (len:=len+m) (sz:=sz) (out:=ps++qs) (v := .slice (some ⟨b,0,none⟩) (len+m) cap) (ob:=some b) vf w6 (by rw[JA];exact w7)
             (fun b' fw=>by
              injection fw with fw;subst fw
              rw[JA];exact⟨by simpa[World.setRow] using Mw.1,Mw.2,QJ,WA b ot⟩)
             (tt (setRow_heap w b arr _ Bm (0,0) hg) (fun j p hp=>by obtain⟨u,q1,q2,q3⟩:=HB j p hp;exact⟨u,q1,q2,q3.mono (fun _ h=>h) (fun b' o' hI=>hZ (setRow_other w b b' _ (fun e=>Mw.2 (e ▸ hI))) o')⟩) (by simp))
             (.inr ⟨b,cap,rfl,rfl,tu,Bm,arr.size,by rw[rY w b b _ arr Bm (0,0) hg Oc];exact T2,q8⟩)
            rw[T6] at Oe;exact Oe
           ·have Og:(arr.toList.take ps.length).length=len*i.size:=by simp;omega
            have holds:∀(j:Nat) v,(arr.toList.take ps.length)[j]? = some v→w.cell? ((⟨b,0,none⟩:Addr).add j)=some v:=by
             intro j v hv;rw[gD,agQ,cell_of_row w b j arr Bm (0,0) hg];rw[agG] at hv;split at hv
             ·simpa using hv
             ·cases hv
            have ar:=run_append_grow (P:=P) w t1 o.type el i z hu hi hz ⟨b,0,none⟩ len cap (arr.toList.take ps.length) Og holds ⟨b2,o2,none⟩ m c2 us yg Re (by omega) (by omega) (growslice_fits (by omega) Bn);refine Ny _ _ (by rw[Dm,yf];exact ar) ?_;generalize hW:((arr.toList.take ps.length).toArray++us.toArray++Builtin.zeroCells z.cells (grownCap w (len+m) cap el-(len+m)):Array Value)=narr;have Bo:df Γ s a (w.drew.alloc (.cells narr el)) β I :=
             hr.grow (((Ds.refl _ _).drew).alloc (afY _) _) (fun b h=>h) (fun b h => .inl h)
            have qZ:(w.drew.alloc (.cells narr el)).heap[w.heap.size]? = some (.cells narr el (0,0)):=heap_alloc_new w.drew _;have DD:=grownCap_ge w (len+m) cap el;have Eb:∀{p:PV} {u:Value},Rd I w p u→Rd I (w.drew.alloc (.cells narr el)) p u:=fun h=>h.mono (fun _ h=>h) (fun b o hI=>hZ (Below.heap_alloc w.drew _ b (hr.ib b hI)) o)
            have o0:∀(j:Nat) p,(ps++qs)[j]? = some p→∃u,narr[j]? = some u∧u.oneCell'=true∧Rd I (w.drew.alloc (.cells narr el)) p u:=by
             intro j p hp;have I8:(arr.toList.take ps.length).length=ps.length:=by simp;omega
             have Oh:narr[j]? = if j<ps.length then arr[j]? else if j<ps.length+us.length then us[j-ps.length]? else (Builtin.zeroCells z.cells (grownCap w (len+m) cap el-(len+m)))[j-(ps.length+us.length)]? := by
              rw[←hW,aij,aij];simp only[Array.size_append,List.size_toArray,I8,List.getElem?_toArray];by_cases hj:j<ps.length
              ·rw[ag9 (by omega),ag9 hj,ag9 hj,agG,ag9 hj];simp
              ·by_cases HC:j<ps.length+us.length
               ·rw[ag9 HC,ag7 hj,ag7 hj,ag9 HC]
               ·rw[ag7 HC,ag7 hj,ag7 HC]
             rw[Oh];rw[agZ] at hp;by_cases hj:j<ps.length
             ·rw[ag9 hj] at hp ⊢;obtain⟨u,q1,q2,q3⟩:=Ag j p hp;exact⟨u,q1,q2,Eb q3⟩
             ·rw[ag7 hj] at hp ⊢;have T5:=(afQ.1 hp).1;have Od:j-ps.length<us.length:=by rw[←uT.1];exact T5
              rw[ag9 (by omega)];obtain⟨q1,q2⟩:=uT.2 _ p us[j-ps.length] hp (afO Od);exact⟨_,afO Od,q2.j9 q1,Eb q2⟩
            refine l9 Bo (ob:=some w.heap.size) vf w6 w7 (fun b' fw => ?_) (tt qZ o0 (by simp)) (.inr ⟨w.heap.size,grownCap w (len+m) cap el,rfl,rfl,DD,el,_,by unfold World.shape?;rw[qZ],?_⟩)
            ·injection fw with fw;subst fw
             exact⟨by simp,fun hI=>ais _ (hr.ib _ hI),(.inl hr.aH.size),fun x hx e=>ais _ (hr.lb x _ (eV.1 hx).1 e)⟩
            ·rw[←hW];simp only[Array.size_append,List.size_toArray,Og,yg,size_zeroCells,Hf,D8,lT];rw[←agF,←agF];have:len+m+(grownCap w (len+m) cap el-(len+m))=grownCap w (len+m) cap el:=by omega
             rw[this];omega
       ·cases aK
      ·cases aK
     ·cases aK
    ·cases aK
  ·cases aK
 ·cases aK
theorem Ec{w:World}{I:Nat→Prop}{y:Value}{m sz:Nat}{qs:List PV}(fe:Src w I y m qs)(hl:qs.length=m*sz)(k:Nat)(hk:k≤m) :
  ∃news,bE I w (qs.take (k*sz)) news∧news.length=k*sz∧(∀(P:Program),(Builtin.firstCells sz k y).run P w = .ok news.toArray w)∧∀(P:Program),(Builtin.lenOf y).run P w = .ok m w:=by
 rcases fe with ⟨ao,c,rfl,rfl,rfl⟩|⟨b,o,c,us,rfl,h1,h2⟩
 ·have:k=0:=by omega
  subst this;refine⟨[],⟨by simp,fun j p u h=>by simp at h⟩,by simp,fun P => ?_,fun P=>rfl⟩;cases ao with
  |none=>rfl
  |some a=>simp[Builtin.firstCells,loadCells,loadCellsFrom]
 ·have hlu:us.length=m*sz:=by rw[←h2.1];exact hl
  have hkm:k*sz≤m*sz:=afU _ hk;refine⟨us.take (k*sz),⟨by simp;omega,fun j p u hp hu => ?_⟩,by simp;omega,fun P => ?_,fun P=>rfl⟩
  ·rw[agG] at hp hu;split at hp
   ·rename_i hj;rw[ag9 hj] at hu;exact h2.2 j p u hp hu
   ·cases hp
  ·have:=run_loadCells_list (P:=P) w ⟨b,o,none⟩ (us.take (k*sz)) (fun j v hv=>by
    rw[agG] at hv;split at hv
    ·rw[Addr.add_lit];exact h1 j v hv
    ·cases hv)
   rw[agh,ah0 (by omega)] at this;simpa[Builtin.firstCells] using this
theorem Fo{dT sT ty e:TypeId}{i:TypeInfo}(hu:P.underlying dT=some (.slice e))(hi:P.info? e=some i)(g off T7 Zq:Nat){cur:Array Value}{Bm:TypeId}(hg:w.heap[g]? = some (.cells cur Bm (0,0))){y:Value}{m k:Nat}{qs:List PV}
  (fe:Src w I y m qs) (hl:qs.length=m*i.size) (hk:min m T7=k) (q8:off+k*i.size≤cur.size) :
  ∃news,bE I w (qs.take (k*i.size)) news∧news.length=k*i.size ∧
   (Builtin.copy_ #[dT,sT] ty #[.slice (some ⟨g,off,none⟩) T7 Zq,y]).run P w = .ok (goInt k) (w.setRow g (cur.toList.take off++news++cur.toList.drop (off+news.length)).toArray):=by
 obtain⟨news,h1,h2,h3,h4⟩:=Ec fe hl k (by omega);refine⟨news,h1,h2,?_⟩;have aK:=run_storeCells_at P g off Bm news 0 cur w hg (by simp;omega) (fun v hv=>by
  obtain⟨j,hj⟩:=ahJ.1 hv;have QI:j<(qs.take (k*i.size)).length:=by rw[h1.1];exact(afQ.1 hj).1
  obtain⟨k1,k2⟩:=h1.2 j _ v (afO QI) hj;exact k2.j9 k1)
 simp only[Nat.add_zero] at aK;have Oi:Nat.min m T7=k:=hk;simp[Builtin.copy_,run_underlying hu,sizeOf,typeInfo,hi,h4 P,Oi,h3 P,aK]
def Bp(T:kL)(n:Nat)(o:Oper)(h:Hint)(s:St):Option (St×List Prop) :=
 match o.op,h with
 |.call c,.app k out=>match c.callee,c.args.toList,c.argTypes.toList with
  |.builtin .copy,[x,y],[t1,_]=>bif lK n o.dst then
    match T.get t1 with
    |some dt=>match dt.kind with
     |.slice el=>match T.get el,dh s.env x,dh s.env y with
      |some de,some (.row r off len sz),some ey=>match s.aG.get r,Hz s.aG r ey with
       |some (.pure ps),some (m,qs,ys)=>bif Nat.beq sz de.size&&Nat.blt r 999999 then
         some (⟨oY s.env o.dst (.pv (.int .i64 (k:Int))),aS.set s.aG r (.pure out)⟩,
          [HA m sz qs ys,min m len=k,off+k*sz≤ps.length,eP ps off (qs.take (k*sz))=out])
        else none
       |_,_=>none
      |_,_,_=>none
     |_=>none
    |none=>none
   else none
  |_,_,_=>none
 |_,_=>none
theorem Bq(hT:n8 P T)(hr:Rel Γ s a w)(aK:Bp T Γ.n o h s=some (s',ob))(bT:dK ob){K:Act→World→Prop}{Q:Exit→Act→World→Prop}
  (hk:∀a' w',Rel Γ s' a' w'→K a' w'):o.wp P a w K Q:=by
 obtain⟨β,I,hr⟩:=hr;unfold Bp at aK;split at aK
 ·rename_i c k out uV;split at aK
  ·rename_i x y t1 t2 rH ky Ju;cases hd:lK Γ.n o.dst with
   |false=>simp[hd] at aK
   |true =>
    simp only[hd,cond_true] at aK;split at aK
    ·rename_i dt Wx;split at aK
     ·rename_i el My;obtain⟨un,hu,_,hf⟩:=(hT t1 dt Wx).under;rw[My] at hf;have hf:un = .slice el:=hf;subst hf;split at aK
      ·rename_i de r off len sz ey oW hx hy;split at aK
       ·rename_i ps m qs ys oz fe;cases hb20:(Nat.beq sz de.size&&Nat.blt r 999999) with
        |false=>simp[hb20] at aK
        |true =>
         simp only[hb20,cond_true] at aK;rw[afX] at hb20;have s7:=hb20.1;have N7:r<999999:=afS hb20.2;have lT:sz=de.size:=ag0 s7;injection aK with aK;injection aK with h1 h2
         subst h1;subst h2;obtain⟨g1,bT⟩:=bT.cons;obtain⟨g2,bT⟩:=bT.cons;obtain⟨g3,g4⟩:=bT.cons;have g4:eP ps off (qs.take (k*sz))=out:=g4;obtain⟨i,hi,YB,_,_⟩:=(hT el de oW).info;obtain⟨cl,args,N4⟩:=c;have rH:cl = .builtin .copy:=rH;subst rH;have mX:args = #[x,y]:=Ak ky;have wW:N4 = #[t1,t2]:=Ak Ju;subst mX;subst wW;have hS:Src w I (a.eval y) m qs∧qs.length=m*sz:=by
          have hyv:=hr.G7 y _ hy;unfold Hz at fe;split at fe
          ·rename_i r2 m2 Nx;cases ot:Nat.beq r2 r with
           |true=>simp[ot] at fe
           |false =>
            simp only[ot,cond_false] at fe;split at fe
            ·rename_i qs2 Ed;injection fe with fe;injection fe with e1 e2;injection e2 with e2 e3
             subst e1;subst e2;subst e3;have g1:qs2.length=m2*sz:=g1;exact⟨KR hyv ((hr.aG.1 r2 _ Ed).1) g1,g1⟩
            ·cases fe
          ·rename_i ys2;injection fe with fe;injection fe with e1 e2;injection e2 with e2 e3
           subst e1;subst e2;subst e3;have g1:∀row∈ys2,row.length=sz:=g1;exact⟨Bl hyv g1,wZ g1⟩
          ·cases fe
         obtain⟨yi,hv⟩:=hr.G7 x _ hx;have Oj:∀v w',(Builtin.copy_ #[t1,t2] o.type #[a.eval x,a.eval y]).run P w = .ok v w'→(execOp a.eval o).run P w = .ok (.value v) w':=by intro v w' ar;simp[execOp,uV,resolve,invoke,builtin,ar]
         rcases hv with ⟨SM,Hp,hv⟩|⟨b,cap,hb,hv,hc,ada,nn,D7,Ze⟩
         ·
          subst Hp;have hk0:k=0:=by rw[←g2];exact Nat.min_zero m
          subst hk0;have Oa:ps=[]:=by
           rcases(hr.aG.1 r _ oz).1 with ⟨_,h2⟩|⟨b,arr,elq,hb,_⟩
           ·have h2:ps.map EV.pv=[]:=h2;simpa using h2
           ·rw[SM] at hb;cases hb
          subst Oa;have Rf:out=[]:=by rw[←g4];simp[eP]
          subst Rf;obtain⟨news,_,n2,n3,n4⟩:=Ec hS.1 hS.2 0 (ago _);have N8:news=[]:=afP (by simpa using n2);subst N8;have ar:(Builtin.copy_ #[t1,t2] o.type #[a.eval x,a.eval y]).run P w = .ok (goInt 0) w:=by rw[hv];simp[Builtin.copy_,run_underlying hu,sizeOf,typeInfo,hi,YB,←lT,n4 P,n3 P]
          unfold Oper.wp;rw[Oj _ _ ar];refine hk _ _ (Rel.Rb (s:=⟨oY s.env o.dst (.pv (.int .i64 (0:Nat))),s.aG⟩) ⟨fun _=>rfl,fun z => ?_⟩ ⟨β,I,hr.put (fc hd) (Rd.int _ _)⟩);show(aS.set s.aG r (.pure [])).get z=s.aG.get z;rw[aS.l8];split
          ·rename_i hz;rw[hz.1,oz];rfl
          ·rfl
         ·obtain⟨arr,Bm,hg,SP,o0⟩:=(hr.aG.1 r _ oz).1.block hb;have SP:ps.length≤arr.size:=by simpa[SC.rI] using SP
          obtain⟨news,n1,n2,n3⟩:=Fo (ty:=o.type) (sT:=t2) (I:=I) hu hi b off len cap hg hS.1 (by rw[YB,←lT];exact hS.2) g2 (by rw[YB,←lT];omega);rw[YB,←lT] at n1 n2;rw[hv] at Oj;unfold Oper.wp;rw[Oj _ _ n3];have hlen:(arr.toList.take off++news++arr.toList.drop (off+news.length)).toArray.size=arr.size:=by simp;omega
          have hq:(qs.take (k*sz)).length=k*sz:=n1.1.trans n2;have kC:=hr.write (sc' := .pure out) N7 oz hb hg hlen (fun j e he=>by
           have he:(out.map EV.pv)[j]? = some e:=he;rw[←g4,afT,jN _ _ _ (by rw[hq];exact g3),hq] at he;have oX:(arr.toList.take off++news++arr.toList.drop (off+news.length)).toArray[j]? = if off≤j∧j<off+k*sz then news[j-off]? else arr[j]? := by have:=jN arr.toList off news (by simp;omega) j;unfold eP at this;rw[←ahK] at this;simp only[List.getElem?_toArray];rw[this,n2];simp
           rw[oX];by_cases hj:off≤j∧j<off+k*sz
           ·rw[ag9 hj] at he ⊢;cases hp:(qs.take (k*sz))[j-off]? with
            |none=>rw[hp] at he;cases he
            |some p =>
             rw[hp] at he;injection he with he;subst he
             have QI:j-off<news.length:=by rw[n2];omega
             obtain⟨k1,k2⟩:=n1.2 (j-off) p _ hp (afO QI);exact⟨_,afO QI,k2.j9 k1,k2⟩
           ·rw[ag7 hj] at he ⊢;exact o0 j e (by rw[←he];show(ps.map EV.pv)[j]? = _;rw[afT]))
          exact hk _ _ ⟨β,I,kC.put (fc hd) (Rd.int _ _)⟩
       ·cases aK
      ·cases aK
     ·cases aK
    ·cases aK
  ·cases aK
 ·cases aK
theorem T8(hr:df Γ s a w β I){r m sz:Nat}{ey:EV}{v:Value}{qs:List PV}{ys:Option (List (List PV))}(fe:Hz s.aG r ey=some (m,qs,ys))(g2:HA m sz qs ys)(KQ:RE β (bB s.aG) I w ey v):Src w I v m qs∧qs.length=m*sz:=by
 unfold Hz at fe;split at fe
 ·rename_i r2 m2 Nx;cases hq:Nat.beq r2 r with
  |true=>simp[hq] at fe
  |false =>
   simp only[hq,cond_false] at fe;split at fe
   ·rename_i Zs YC;injection fe with fe;injection fe with e1 fe;injection fe with e2 e3
    subst e1;subst e2;subst e3;have Nz:Zs.length=m2*sz:=g2;exact⟨KR KQ (hr.aG.1 r2 _ YC).1 Nz,Nz⟩
   ·cases fe
 ·rename_i ys';injection fe with fe;injection fe with e1 fe;injection fe with e2 e3
  subst e1;subst e2;subst e3;exact⟨Bl KQ g2,wZ g2⟩
 ·cases fe
def KS(T:kL)(n:Nat)(o:Oper)(h:Hint)(s:St):Option (St×List Prop):=w8 Hz T n o h s
theorem DE(hT:n8 P T)(hs:∀r,bB Γ.sin r→Γ.n≤r)(hr:Rel Γ s a w)(aK:KS T Γ.n o h s=some (s',ob))(bT:dK ob){K:Act→World→Prop}{Q:Exit→Act→World→Prop}
  (hk:∀a' w',Rel Γ s' a' w'→K a' w'):o.wp P a w K Q:=tv (fun hr=>T8 hr) hT hs hr aK bT hk
def JB:TZ:=fun aG r e =>
 match e with
 |.row r2 off m Nx=>bif Nat.beq r2 r then none else match aG.get r2 with
  |some (.pure qs)=>some (m,(qs.drop off).take (m*Nx),none)
  |_=>none
 |.pv (.list ys)=>some (ys.length,ys.flatten,some ys)
 |_=>none
theorem Ok{r off m sz Nx:Nat}{v:Value}{L:Nat→Prop}{qs:List PV}(hv:RE β L I w (.row r off m Nx) v)(hb:RB β L I w r (qs.map EV.pv))(hl:((qs.drop off).take (m*Nx)).length=m*sz):Src w I v m ((qs.drop off).take (m*Nx)):=by
 obtain⟨_,⟨hn,rfl,rfl⟩|⟨b,c,ot,rfl,_⟩⟩:=hv
 ·exact .inl ⟨none,0,rfl,rfl,by simp⟩
 ·obtain⟨arr,el,hg,SP,hc⟩:=hb.block ot;refine .inr ⟨b,off,c,(arr.toList.drop off).take ((qs.drop off).take (m*Nx)).length,rfl,fun j u hu => ?_,?_,fun j p u hp hu => ?_⟩
  ·rw[agG] at hu;split at hu
   ·rw[agS] at hu;rw[cell_of_row w b (off+j) arr el (0,0) hg];simpa using hu
   ·cases hu
  ·have hq:qs.length≤arr.size:=by simpa using SP
   simp only[List.length_take,List.length_drop,Array.length_toList];omega
  ·rw[agG] at hp hu;split at hu
   ·split at hp
    ·rw[agS] at hp hu;obtain⟨u',g1,g2,g3⟩:=hc (off+j) (.pv p) (by rw[afT,hp];rfl);have:u'=u:=by simpa[g1] using hu
     subst this;exact⟨PV.lI g3 g2,g3⟩
    ·cases hp
   ·cases hu
theorem Rg(hr:df Γ s a w β I){r m sz:Nat}{ey:EV}{v:Value}{qs:List PV}{ys:Option (List (List PV))}(fe:JB s.aG r ey=some (m,qs,ys))(g2:HA m sz qs ys)(KQ:RE β (bB s.aG) I w ey v):Src w I v m qs∧qs.length=m*sz:=by
 unfold JB at fe;split at fe
 ·rename_i r2 off m2 Nx;cases hq:Nat.beq r2 r with
  |true=>simp[hq] at fe
  |false =>
   simp only[hq,cond_false] at fe;split at fe
   ·rename_i Zs YC;injection fe with fe;injection fe with e1 fe;injection fe with e2 e3
    subst e1;subst e2;subst e3;have Nz:((Zs.drop off).take (m2*Nx)).length=m2*sz:=g2;exact⟨Ok KQ (hr.aG.1 r2 _ YC).1 Nz,Nz⟩
   ·cases fe
 ·rename_i ys';injection fe with fe;injection fe with e1 fe;injection fe with e2 e3
  subst e1;subst e2;subst e3;exact⟨Bl KQ g2,wZ g2⟩
 ·cases fe
theorem Rel.cut(hr:Rel Γ s a w){r k:Nat}{ps:List PV}(oz:s.aG.get r=some (.pure ps)):Rel Γ ⟨s.env,aS.set s.aG r (.pure (ps.take k))⟩ a w:=by
 obtain⟨β,I,hr⟩:=hr;have hL:∀x,bB s.aG x→bB (aS.set s.aG r (.pure (ps.take k))) x:=fun x hx=>gE.2 hx
 refine⟨β,I,fun t e he=>(hr.env t e he).mono (fun _ _=>rfl) hL (fun _ h=>h) (fun _ _ _=>rfl) (fun _ _ _ _=>rfl),⟨fun x sc hx => ?_,fun x y b hx hy=>hr.aG.2 x y b (gE.1 hx) (gE.1 hy)⟩,
  fun x hx=>hr.par x (gE.1 hx),fun x b hx=>hr.new x b (gE.1 hx),hr.ib,hr.ii,hr.aH,hr.size,hr.defers⟩
 have hx:(aS.set s.aG r (.pure (ps.take k))).get x=some sc:=hx;rw[aS.l8] at hx;by_cases DB:x=r∧r<999999
 ·obtain⟨rfl,N7⟩:=DB;rw[ag9 ⟨rfl,N7⟩,oz] at hx;simp only[Option.map_some,Option.some.injEq] at hx;subst hx;obtain⟨k1,k2⟩:=hr.aG.1 x _ oz;refine⟨?_,k2⟩;rcases k1 with ⟨c1,c2⟩|⟨b,arr,el,c1,c2,c3⟩
  ·have c2:ps.map EV.pv=[]:=c2;exact .inl ⟨c1,by show(ps.take k).map EV.pv=[];rw[ahP,c2];simp⟩
  ·refine .inr ⟨b,arr,el,c1,c2,fun i e he => ?_⟩;have he:((ps.take k).map EV.pv)[i]? = some e:=he;rw[ahP] at he;have bH:=(afQ.1 he).1;rw[agh] at bH;rw[List.getElem?_take_of_lt (by omega)] at he;obtain⟨u,d1,d2,d3⟩:=c3 i e he;exact⟨u,d1,d2,d3.mono (fun _ _=>rfl) hL (fun _ h=>h) (fun _ _ _=>rfl) (fun _ _ _ _=>rfl)⟩
 ·rw[ag7 DB] at hx;obtain⟨k1,k2⟩:=hr.aG.1 x sc hx;exact⟨k1.mono rfl (fun _ _=>rfl) (fun _ _=>rfl) hL (fun _ h=>h) (fun _ _ _=>rfl) (fun _ _ _ _=>rfl),k2⟩
end
end Go.Proofs.YtcpnocgollpbhaaGreatDoor.Sym
