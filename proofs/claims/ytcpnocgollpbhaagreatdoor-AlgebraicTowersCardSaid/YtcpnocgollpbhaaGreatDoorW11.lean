/- Lemmas for the statements of this seat. -/
import Derived.Test.YtcpnocgollpbhaaGreatDoorW10
namespace Go.Proofs.YtcpnocgollpbhaaGreatDoor.Sym
open Go Go.RowKit
section
variable {P:Program} {T:lh} {Γ:Ctx} {s s':St} {a:Act} {w:World} {β:Nat→Option Nat} {I:Nat→Prop} {o:Oper} {h:Hint} {ob:List Prop}
theorem CA{b sz:Nat} : ∀(ys:List (List PV)) (o:Nat) (f:Nat→Nat→Value),(∀row∈ys,row.length=sz) →
  (∀(i j:Nat) row x,ys[i]? = some row→row[j]? = some x→w.cell? ⟨b,o+(i*sz+j),none⟩=some (f i j)∧x.one=true∧Rd I w x (f i j)) →
  ∃us:List Value,(∀(j:Nat) u,us[j]? = some u→w.cell? ⟨b,o+j,none⟩=some u)∧bM I w ys.flatten us
 |[],o,f,_,_=>⟨[],fun j u h=>by simp at h,rfl,fun j c u h=>by simp at h⟩
 |row::ys,o,f,hl,h=>by
  have zL:row.length=sz:=hl row (by simp);obtain⟨us,h1,h2⟩:=CA ys (o+sz) (fun i j=>f (i+1) j) (fun r hr=>hl r (by simp[hr])) (fun i j r x hi hj=>by have:=h (i+1) j r x (by simpa using hi) hj;rw[show o+sz+(i*sz+j)=o+((i+1)*sz+j) from by rw[age];omega];exact this)
  have mr:∀(j:Nat),((List.range sz).map (f 0)++us)[j]? = if j<sz then some (f 0 j) else us[j-sz]? := by
   intro j;rw[agE];simp only[List.length_map,List.length_range];by_cases hj:j<sz
   ·rw[afI hj,afI hj,afu,ahk hj];rfl
   ·rw[afG hj,afG hj]
  refine⟨(List.range sz).map (f 0)++us,fun j u hu => ?_,by simp[zL];simpa using h2.1,fun j c u hc hu => ?_⟩
  ·rw[mr] at hu;by_cases hj:j<sz
   ·rw[afI hj] at hu;injection hu with hu;subst hu
    have hx:row[j]? = some row[j]:=afp (by omega);have:=(h 0 j row _ rfl hx).1;simpa using this
   ·rw[afG hj] at hu;have:=h1 _ u hu;rw[show o+sz+(j-sz)=o+j from by omega] at this;exact this
  ·rw[mr] at hu;rw[agY,agE] at hc;by_cases hj:j<sz
   ·rw[afI hj] at hu;rw[afI (by omega)] at hc;injection hu with hu;subst hu
    exact(h 0 j row c rfl hc).2
   ·rw[afG hj] at hu;rw[afG (by omega),zL] at hc;exact h2.2 _ c u hc hu
theorem xZ{sz:Nat} : ∀{ys:List (List PV)},(∀row∈ys,row.length=sz)→ys.flatten.length=ys.length*sz
 |[],_=>by simp
 |row::ys,h=>by have:=xZ (sz:=sz) (ys:=ys) (fun r hr=>h r (by simp[hr]));have:=h row (by simp);simp only[List.flatten_cons,List.length_append,List.length_cons,Nat.succ_mul];omega
def Src(w:World)(I:Nat→Prop)(y:Value)(m:Nat)(qs:List PV):Prop :=
 (∃ao c,y = .slice ao 0 c∧m=0∧qs=[])∨∃b o c us,y = .slice (some ⟨b,o,none⟩) m c∧(∀(j:Nat) u,us[j]? = some u→w.cell? ⟨b,o+j,none⟩=some u)∧bM I w qs us
theorem CB{ys:List (List PV)}{v:Value}{sz:Nat}(hv:Rd I w (.list ys) v)(hs:∀row∈ys,row.length=sz):Src w I v ys.length ys.flatten:=by
 cases hv with
 |nil ao c=>exact .inl ⟨ao,c,rfl,rfl,rfl⟩
 |list _ b o c s f hc hb WT ho hh =>
  have mg:∀row∈ys,row.length=s:=fun row hr=>by obtain⟨i,hi⟩:=ahn.1 hr;exact WT i row hi
  obtain⟨us,h1,h2⟩:=CA (w:=w) (I:=I) (b:=b) (sz:=s) ys o f mg (fun i j row x hi hj=>⟨(ho i j row x hi hj).2,(ho i j row x hi hj).1,hh i j row x hi hj⟩);exact .inr ⟨b,o,c,us,rfl,h1,h2⟩
theorem LA{r m sz N9:Nat}{v:Value}{L:Nat→Prop}{qs:List PV}(hv:RE β L I w (.row r 0 m N9) v)(hb:RB β L I w r (qs.map EV.pv))(hl:qs.length=m*sz):Src w I v m qs:=by
 obtain⟨_,⟨hn,rfl,rfl⟩|⟨b,c,oQ,rfl,_⟩⟩:=hv
 ·exact .inl ⟨none,0,rfl,rfl,afr (by simpa using hl)⟩
 ·obtain⟨arr,el,hg,Tl,hc⟩:=hb.block oQ;refine .inr ⟨b,0,c,arr.toList.take qs.length,rfl,fun j u hu => ?_,by simp at Tl ⊢;omega,fun j p u hp hu => ?_⟩
  ·rw[agh] at hu;split at hu
   ·rw[agl,cell_of_row w b j arr el (0,0) hg];simpa using hu
   ·cases hu
  ·rw[agh] at hu;split at hu
   ·obtain⟨u',g1,g2,g3⟩:=hc j (.pv p) (by rw[afu,hp];rfl);have:u'=u:=by simpa[g1] using hu
    subst this;exact⟨PV.l5 g3 g2,g3⟩
   ·cases hu
theorem oG{t e:TypeId}{de:TD}(hu:P.underlying t=some (.slice e))(hd:qD P e de)(ty:TypeId)(ao bo:Option Addr)(len cap c:Nat)(hc:len≤cap) :
  (Builtin.append_ #[t,t] ty #[.slice ao len cap,.slice bo 0 c]).run P w = .ok (.slice ao len cap) w:=by
 cases ao<;>cases bo<;>simp[Builtin.append_,run_underlying hu,hd.run_sizeOf w,Builtin.lenOf,Builtin.firstCells,hc,loadCells,loadCellsFrom,storeCells]
theorem uh{β':Nat→Option Nat}{L':Nat→Prop}{d b:Nat}{ps:List PV}{arr:Array Value}{el:TypeId}(hg:w.heap[b]? = some (.cells arr el (0,0)))
  (hc:∀(j:Nat) p,ps[j]? = some p→∃u,arr[j]? = some u∧u.oneCell'=true∧Rd I w p u) (hb:β' d=some b):RB β' L' I w d (ps.map EV.pv):=by
 refine .inr ⟨b,arr,el,hb,hg,fun j e he => ?_⟩;rw[afu] at he;cases hj:ps[j]? with
 |none=>simp[hj] at he
 |some p =>simp[hj] at he;subst he;exact hc j p hj
theorem wV{r b:Nat}{L:Nat→Prop}{ps:List PV}(h:RB β L I w r (ps.map EV.pv))(hb:β r=some b) :
  ∃arr el,w.heap[b]? = some (.cells arr el (0,0))∧ps.length≤arr.size∧∀(j:Nat) p,ps[j]? = some p→∃u,arr[j]? = some u∧u.oneCell'=true∧Rd I w p u:=by
 obtain⟨arr,el,h1,h2,h3⟩:=h.block hb;refine⟨arr,el,h1,by simpa using h2,fun j p hp=>h3 j (.pv p) (by rw[List.getElem?_map,hp];rfl)⟩
theorem x3(r:Nat)(hr:r<999999)(sc:SC):∀(s:aT),dG r (aT.Kh s r sc)=dG r s
 |[]=>rfl
 |(r',c)::s=>by
  have dS:Nat.blt r 999999=true:=agR hr;simp only[aT.Kh];cases hb:Nat.beq r' r with
  |true=>simp[dG,hb,dS]
  |false=>simp[dG,hb,x3 r hr sc s]
theorem AJ(r:Nat)(sc:SC)(s:aT):dG r (aT.set s r sc)=dG r s:=by
 unfold aT.set;by_cases hr:r<999999
 ·rw[show Nat.blt r 999999=true from agR hr];exact x3 r hr sc s
 ·rw[show Nat.blt r 999999=false from ah8.2 (fun h=>hr (afv h))];rfl
theorem my(hr:dz Γ s a w β I){r d len sz:Nat}{out:List PV}{v:Value}(wi:d<Γ.n)(x4:¬bK Γ.sin d)(x5:¬bK (dG r s.aK) d){ob:Option Nat}
  (hb:∀b,ob=some b→b<w.heap.size∧¬I b∧Γ.Nw b∧∀x,bK (dG r s.aK) x→β x≠some b)
  (Ly:RB (fun x=>if x=d then ob else β x) (fun x=>bK (dG r s.aK) x∨x=d) I w d (out.map EV.pv))
  (hv:(ob=none∧len=0∧v = .slice none 0 0)∨∃b c,ob=some b∧v = .slice (some ⟨b,0,none⟩) len c∧len≤c∧∃el n,w.shape? b=some (el,n)∧0+c*sz≤n) :
  Rel Γ ⟨pF (kill r s).env (some d) (.row d 0 len sz),(d,.pure out)::(kill r s).aK⟩ (a.put (some d) v) w:=by
 have h1:=hr.kill r;have tU:d<999999:=aga wi Γ.small;have h2:=h1.site (d:=d) (sc := .pure out) tU x5 x4 (β':=fun x=>if x=d then ob else β x) (fun x hx=>afG hx) (fun b fG=>hb b (by simpa using fG)) Ly;refine⟨_,_,h2.put (dst:=some d) (fun d' Tk=>by injection Tk with Tk;rw[←Tk];exact wi) ⟨(dY tU).2 (.inl rfl),?_⟩⟩;simpa using hv
theorem wW{t e CC:TypeId}{i:TypeInfo}(ht:P.underlying t=some (.slice e))(hi:P.info? e=some i)(ty:TypeId)
  (g mh v8:Nat) (cur:Array Value) (hg:w.heap[g]? = some (.cells cur CC (0,0)))
  (ad:Addr) (m c:Nat) (news:List Value) (hl:news.length=m*i.size) (OL:∀j u,news[j]? = some u→w.cell? (ad.add j)=some u) (h1:∀u∈news,u.oneCell'=true)
  (ui:mh+m≤v8) (qE:mh*i.size+news.length≤cur.size) :
  (Builtin.append_ #[t,t] ty #[.slice (some ⟨g,0,none⟩) mh v8,.slice (some ad) m c]).run P w =
   .ok (.slice (some ⟨g,0,none⟩) (mh+m) v8) (w.setRow g (cur.toList.take (mh*i.size)++news++cur.toList.drop (mh*i.size+news.length)).toArray):=by
 have hf:=run_firstCells_some (P:=P) w i.size m ad m c news hl OL;have aO:=run_storeCells_at P g (mh*i.size) CC news 0 cur w hg (by simpa using qE) h1;simp only[Nat.add_zero] at aO;simp[Builtin.append_,run_underlying ht,sizeOf,typeInfo,hi,Builtin.lenOf,ui,hf,Addr.add_lit,aO]
def Ii(aK:aT)(r:Nat)(e:EV):Option (Nat×List PV×Option (List (List PV))) :=
 match e with
 |.row r2 0 m _=>bif Nat.beq r2 r then none else match aK.get r2 with
  |some (.pure qs)=>some (m,qs,none)
  |_=>none
 |.pv (.list ys)=>some (ys.length,ys.flatten,some ys)
 |_=>none
def Ij(m sz:Nat)(qs:List PV):Option (List (List PV))→Prop
 |none=>qs.length=m*sz
 |some ys=>∀row∈ys,row.length=sz
abbrev Uv:=aT→Nat→EV→Option (Nat×List PV×Option (List (List PV)))
def x6(src:Uv)(T:lh)(n:Nat)(o:Oper)(h:Hint)(s:St):Option (St×List Prop) :=
 match o.op,o.dst,h with
 |.call c,some d,.app wa out=>match c.callee,c.args.toList,c.argTypes.toList with
  |.builtin .append,[x,y],[t1,t2]=>bif Nat.beq t1 t2&&Nat.blt d n then
    match T.get t1 with
    |some dt=>match dt.kind with
     |.slice el=>match T.get el,dA s.env x,dA s.env y with
      |some de,some (.row r 0 len sz),some ey=>match s.aK.get r,src s.aK r ey,(kill r s).aK.get d with
       |some (.pure ps),some (m,qs,ys),none=>bif Nat.beq sz de.size&&Nat.ble 1 sz&&Nat.blt r n then
         some (⟨pF (kill r s).env (some d) (.row d 0 wa sz),(d,.pure out)::(kill r s).aK⟩,
          [ps.length=len*sz,Ij m sz qs ys,len+m=wa,ps++qs=out,wa*de.bytes≤140737488355328,wa<9223372036854775808])
        else none
       |_,_,_=>none
      |_,_,_=>none
     |_=>none
    |none=>none
   else none
  |_,_,_=>none
 |_,_,_=>none
theorem uj{src:Uv}(HS:∀{β:Nat→Option Nat} {I:Nat→Prop},dz Γ s a w β I→∀{r m sz:Nat} {ey:EV} {v:Value} {qs:List PV} {ys:Option (List (List PV))},src s.aK r ey=some (m,qs,ys)→Ij m sz qs ys→RE β (bK s.aK) I w ey v→Src w I v m qs∧qs.length=m*sz)(hT:oE P T)(hs:∀r,bK Γ.sin r→Γ.n≤r)(hr:Rel Γ s a w)(aO:x6 src T Γ.n o h s=some (s',ob))(cv:dX ob){K:Act→World→Prop}{Q:Exit→Act→World→Prop}
  (hk:∀a' w',Rel Γ s' a' w'→K a' w'):o.wp P a w K Q:=by
 obtain⟨β,I,hr⟩:=hr;unfold x6 at aO;split at aO
 ·rename_i c d wa out v7 Ih;split at aO
  ·rename_i x y t1 t2 sF kO Kc;cases sE:(Nat.beq t1 t2&&Nat.blt d Γ.n) with
   |false=>simp[sE] at aO
   |true =>
    simp only[sE,cond_true] at aO;simp only[Bool.and_eq_true] at sE;have fP:t1=t2:=afB sE.1;have wi:d<Γ.n:=afv sE.2;subst fP;split at aO
    ·rename_i dt WU;split at aO
     ·rename_i el Nc;obtain⟨un,hu,_,hf⟩:=(hT t1 dt WU).under;rw[Nc] at hf;have hf:un = .slice el:=hf;subst hf;split at aO
      ·rename_i de r len sz ey pE hx hy;split at aO
       ·rename_i ps m qs ys o0 fu wh;cases tS:(Nat.beq sz de.size&&Nat.ble 1 sz&&Nat.blt r Γ.n) with
        |false=>simp[tS] at aO
        |true =>
         simp only[tS,cond_true] at aO;simp only[Bool.and_eq_true] at tS;have mg:sz=de.size:=afB tS.1.1;have WV:1≤sz:=afv tS.1.2;have RO:r<Γ.n:=afv tS.2;injection aO with aO;injection aO with h1 h2
         subst h1;subst h2;obtain⟨g1,cv⟩:=cv.cons;obtain⟨g2,cv⟩:=cv.cons;obtain⟨g3,cv⟩:=cv.cons;obtain⟨g4,cv⟩:=cv.cons;obtain⟨g5,g6⟩:=cv.cons;have g6:wa<9223372036854775808:=g6;subst g3;subst g4;obtain⟨i,hi,E4,Wz,z,hz,_,HW,_⟩:=(hT el de pE).info;have hex:=hr.HI x _ hx;have Lz:=hr.HI y _ hy;obtain⟨zH,zL⟩:=hex;have Ly:=(hr.aK.1 r _ o0).1;have Uw:¬bK Γ.sin r:=fun h=>by have:=hs r h;omega
         have x4:¬bK Γ.sin d:=fun h=>absurd (hs d h) (ahf wi)
         have x5:¬bK (kill r s).aK d:=by unfold bK;rw[wh];simp
         have WW:Src w I (a.eval y) m qs∧qs.length=m*sz:=HS hr fu g2 Lz;obtain⟨OM,E6⟩:=WW;have Oa:∀v' w',(Builtin.append_ #[t1,t1] o.type #[a.eval x,a.eval y]).run P w = .ok v' w'→Rel Γ ⟨pF (kill r s).env (some d) (.row d 0 (len+m) sz),(d,.pure (ps++qs))::(kill r s).aK⟩ (a.put (some d) v') w'→o.wp P a w K Q:=by intro v' w' aw kT;have nD:=Bv kO;have xW:=Bv Kc;obtain⟨cl,args,OH⟩:=c;simp only at sF nD xW;subst sF;subst nD;subst xW;unfold Oper.wp execOp;simp only[v7,resolve,invoke,builtin,Sem.run_bind,Sem.run_pure,Result.andThen_ok,List.map_toArray,List.map_cons,List.map_nil,aw];show K (a.put o.dst v') w';rw[Ih];exact hk _ _ kT
         have CD:(len+m)*i.bytes≤140737488355328:=by rw[Wz];exact g5
         have zM:len+m≤maxLen:=by unfold maxLen;omega
         have WX:∀b,β r=some b→∀x,bK (dG r s.aK) x→β x≠some b:=fun b hb x hx e =>(fk.1 hx).2 (hr.aK.2 x r b (fk.1 hx).1 zH e hb)
         rcases zL with ⟨Ti,H8,Em⟩|⟨b,cap,oQ,Em,RG,elx,nx,E3,qE⟩
         ·
          subst H8;have ON:ps=[]:=afr (by simpa using g1);subst ON;rcases OM with ⟨ao,c2,zE,rfl,rfl⟩|⟨b2,o2,c2,us,zE,Ex,vY⟩
          ·refine Oa _ _ (by rw[Em,zE];exact oG hu (hT el de pE) _ none ao 0 0 c2 (afy _)) ?_;exact my hr (ob:=none) wi x4 x5 (fun b hb=>by cases hb) (.inl ⟨by simp,rfl⟩) (.inl ⟨rfl,rfl,rfl⟩)
          ·have zF:us.length=m*i.size:=by rw[←vY.1,E4,←mg];exact E6
           have RP:∀(j:Nat) u,us[j]? = some u→w.cell? ((⟨b2,o2,none⟩:Addr).add j)=some u:=fun j u J1=>by rw[gU];exact Ex j u J1
           rcases aid m with JR|JR
           ·subst JR;have o5:qs=[]:=afr (by simpa using E6);subst o5;refine Oa _ _ (by rw[Em,zE];exact oG hu (hT el de pE) _ none _ 0 0 c2 (afy _)) ?_;exact my hr (ob:=none) wi x4 x5 (fun b hb=>by cases hb) (.inl ⟨by simp,rfl⟩) (.inl ⟨rfl,rfl,rfl⟩)
           ·have aw:=run_append_nil (P:=P) w t1 o.type el i z hu hi hz ⟨b2,o2,none⟩ m c2 us zF RP JR (by omega) (by simp only[Nat.zero_add] at CD;omega);refine Oa _ _ (by rw[Em,zE];exact aw) ?_;have CE:dz Γ s a (w.drew.alloc (.cells (us.toArray++Builtin.zeroCells z.cells (grownCap w m 0 el-m)) el)) β I :=
             hr.grow (((Eu.refl _ _).drew).alloc (afy _) _) (fun b h=>h) (fun b h => .inl h)
            have r7:(w.drew.alloc (.cells (us.toArray++Builtin.zeroCells z.cells (grownCap w m 0 el-m)) el)).heap[w.heap.size]? = some (.cells (us.toArray++Builtin.zeroCells z.cells (grownCap w m 0 el-m)) el (0,0)):=heap_alloc_new w.drew _;have EC:=grownCap_ge w m 0 el;have pH:∀(j:Nat) p,(([]:List PV)++qs)[j]? = some p→∃u,(us.toArray++Builtin.zeroCells z.cells (grownCap w m 0 el-m))[j]? = some u∧u.oneCell'=true∧Rd I (w.drew.alloc (.cells (us.toArray++Builtin.zeroCells z.cells (grownCap w m 0 el-m)) el)) p u:=by
             intro j p hp;simp only[List.nil_append] at hp;have hj:j<us.length:=by rw[←vY.1];exact(afs.1 hp).1
             obtain⟨q1,q2⟩:=vY.2 j p us[j] hp (afp hj);refine⟨us[j],by rw[ain (by simpa using hj)];simp[hj],q2.kA q1,q2.mono (fun _ h=>h) (fun b o hI=>iH (Below.heap_alloc w.drew _ b (hr.ib b hI)) o)⟩
            refine my CE (ob:=some w.heap.size) wi x4 x5 (fun b hb => ?_) (uh r7 pH (by simp)) (.inr ⟨w.heap.size,grownCap w m 0 el,rfl,by simp,by simpa using EC,el,_,by unfold World.shape?;rw[r7],?_⟩)
            ·injection hb with hb;subst hb
             exact⟨by simp,fun hI=>ai5 _ (hr.ib _ hI),(.inl hr.aG.size),fun x hx e=>ai5 _ (hr.lb x _ (fk.1 hx).1 e)⟩
            ·simp only[Array.size_append,List.size_toArray,zF,size_zeroCells,HW,E4,mg];rw[←age];have:m+(grownCap w m 0 el-m)=grownCap w m 0 el:=by omega
             rw[this];omega
         ·
          have Rl:Γ.Nw b:=hr.new r b zH (.inl Uw) oQ;have Nb:=((hr.aK.1 r _ o0).2 b oQ);obtain⟨arr,CC,hg,HG,Br⟩:=wV Ly oQ;have Ux:w.shape? b=some (CC,arr.size):=by unfold World.shape?;rw[hg]
          have Ge:nx=arr.size:=by rw[Ux] at E3;injection E3 with E3;injection E3 with h1 h2;exact h2.symm
          subst Ge;rcases aid m with JR|JR
          ·have zE:∃bo c2,a.eval y = .slice bo 0 c2:=by
            rcases OM with ⟨ao,c2,zE,_⟩|⟨b2,o2,c2,us,zE,_⟩
            ·exact⟨_,_,zE⟩
            ·exact⟨_,_,by rw[zE,JR]⟩
           obtain⟨bo,c2,zE⟩:=zE;subst JR;have o5:qs=[]:=afr (by simpa using E6);subst o5;refine Oa _ _ (by rw[Em,zE];exact oG hu (hT el de pE) _ _ _ len cap c2 RG) ?_;exact my hr (ob:=some b) wi x4 x5 (fun b' fG=>by injection fG with fG;subst fG;exact⟨Nb.1,Nb.2,Rl,WX b oQ⟩)
            (uh hg (fun j p hp=>Br j p (by simpa using hp)) (by simp)) (.inr ⟨b,cap,rfl,rfl,RG,CC,_,Ux,qE⟩)
          ·rcases OM with ⟨_,_,_,hm,_⟩|⟨b2,o2,c2,us,zE,Ex,vY⟩
           ·omega
           have zF:us.length=m*i.size:=by rw[←vY.1,E4,←mg];exact E6
           have RP:∀(j:Nat) u,us[j]? = some u→w.cell? ((⟨b2,o2,none⟩:Addr).add j)=some u:=fun j u J1=>by rw[gU];exact Ex j u J1
           have Uy:∀u∈us,u.oneCell'=true:=fun u J1=>by
            obtain⟨j,hj⟩:=ahn.1 J1;have Rk:j<qs.length:=by rw[vY.1];exact(afs.1 hj).1
            obtain⟨q1,q2⟩:=vY.2 j _ u (afp Rk) hj;exact q2.kA q1
           have Uz:len*i.size=ps.length:=by rw[E4,←mg];exact g1.symm
           have Zr:cap*sz≤arr.size:=by omega
           by_cases ui:len+m≤cap
           ·have OO:len*i.size+us.length≤arr.size:=by
             have h3:(len+m)*sz≤cap*sz:=afw _ ui;rw[age] at h3;rw[zF,E4,←mg];omega
            have aw:=wW (P:=P) hu hi o.type b len cap arr hg ⟨b2,o2,none⟩ m c2 us zF RP Uy ui OO;refine Oa _ _ (by rw[Em,zE];exact aw) ?_;have OP:(arr.toList.take (len*i.size)++us++arr.toList.drop (len*i.size+us.length)).toArray.size=arr.size:=by simp;omega
            have mr:∀j,(arr.toList.take (len*i.size)++us++arr.toList.drop (len*i.size+us.length)).toArray[j]? = if len*i.size≤j∧j<len*i.size+us.length then us[j-len*i.size]? else arr[j]? := by intro j;have:=kd arr.toList (len*i.size) us (by simp;omega) j;unfold fg at this;rw[←ah9] at this;simp only[List.getElem?_toArray];rw[this];simp only[Array.getElem?_toList]
            have Ik:∀(j:Nat) p,(ps++qs)[j]? = some p→∃u,(arr.toList.take (len*i.size)++us++arr.toList.drop (len*i.size+us.length)).toArray[j]? = some u∧u.oneCell'=true∧Rd I w p u:=by
             intro j p hp;rw[mr j];rw[agE] at hp;by_cases hj:j<ps.length
             ·rw[afI hj] at hp;rw[afG (by omega)];exact Br j p hp
             ·rw[afG hj] at hp;have UA:=(afs.1 hp).1;have OQ:j-ps.length<us.length:=by rw[←vY.1];exact UA
              rw[afI (by omega),Uz];obtain⟨q1,q2⟩:=vY.2 _ p us[j-ps.length] hp (afp OQ);exact⟨_,afp OQ,q2.kA q1,q2⟩
            have Zs:=hr.write (sc' := .pure (ps++qs)) (aga RO Γ.small) o0 oQ hg OP (fun j e' iu=>by
             simp only[SC.sG,List.getElem?_map] at iu;cases hp:(ps++qs)[j]? with
             |none=>simp[hp] at iu
             |some p =>simp[hp] at iu;subst iu;exact Ik j p hp)
            have Ki:dG r (aT.set s.aK r (.pure (ps++qs)))=dG r s.aK:=AJ r _ s.aK;have UB:kill r ⟨s.env,aT.set s.aK r (.pure (ps++qs))⟩=kill r s:=by unfold kill;simp only[Ki]
            have OR:=my Zs (r:=r) (d:=d) (len:=len+m) (sz:=sz) (out:=ps++qs) (v := .slice (some ⟨b,0,none⟩) (len+m) cap) (ob:=some b) wi x4 (by rw[Ki];exact x5)
             (fun b' fG=>by
              injection fG with fG;subst fG
              rw[Ki];exact⟨by simpa[World.setRow] using Nb.1,Nb.2,Rl,WX b oQ⟩)
             (uh (setRow_heap w b arr _ CC (0,0) hg) (fun j p hp=>by obtain⟨u,q1,q2,q3⟩:=Ik j p hp;exact⟨u,q1,q2,q3.mono (fun _ h=>h) (fun b' o' hI=>iH (setRow_other w b b' _ (fun e=>Nb.2 (e ▸ hI))) o')⟩) (by simp))
             (.inr ⟨b,cap,rfl,rfl,ui,CC,arr.size,by rw[sQ w b b _ arr CC (0,0) hg OP];exact Ux,qE⟩)
            rw[UB] at OR;exact OR
           ·have OS:(arr.toList.take ps.length).length=len*i.size:=by simp;omega
            have holds:∀(j:Nat) v,(arr.toList.take ps.length)[j]? = some v→w.cell? ((⟨b,0,none⟩:Addr).add j)=some v:=by
             intro j v hv;rw[gU,agl,cell_of_row w b j arr CC (0,0) hg];rw[agh] at hv;split at hv
             ·simpa using hv
             ·cases hv
            have aw:=run_append_grow (P:=P) w t1 o.type el i z hu hi hz ⟨b,0,none⟩ len cap (arr.toList.take ps.length) OS holds ⟨b2,o2,none⟩ m c2 us zF RP (by omega) (by omega) (growslice_fits (by omega) CD);refine Oa _ _ (by rw[Em,zE];exact aw) ?_;generalize hW:((arr.toList.take ps.length).toArray++us.toArray++Builtin.zeroCells z.cells (grownCap w (len+m) cap el-(len+m)):Array Value)=narr;have CE:dz Γ s a (w.drew.alloc (.cells narr el)) β I :=
             hr.grow (((Eu.refl _ _).drew).alloc (afy _) _) (fun b h=>h) (fun b h => .inl h)
            have r7:(w.drew.alloc (.cells narr el)).heap[w.heap.size]? = some (.cells narr el (0,0)):=heap_alloc_new w.drew _;have EC:=grownCap_ge w (len+m) cap el;have Il:∀{p:PV} {u:Value},Rd I w p u→Rd I (w.drew.alloc (.cells narr el)) p u:=fun h=>h.mono (fun _ h=>h) (fun b o hI=>iH (Below.heap_alloc w.drew _ b (hr.ib b hI)) o)
            have pH:∀(j:Nat) p,(ps++qs)[j]? = some p→∃u,narr[j]? = some u∧u.oneCell'=true∧Rd I (w.drew.alloc (.cells narr el)) p u:=by
             intro j p hp;have HF:(arr.toList.take ps.length).length=ps.length:=by simp;omega
             have OT:narr[j]? = if j<ps.length then arr[j]? else if j<ps.length+us.length then us[j-ps.length]? else (Builtin.zeroCells z.cells (grownCap w (len+m) cap el-(len+m)))[j-(ps.length+us.length)]? := by
              rw[←hW,ahS,ahS];simp only[Array.size_append,List.size_toArray,HF,List.getElem?_toArray];by_cases hj:j<ps.length
              ·rw[afI (by omega),afI hj,afI hj,agh,afI hj];simp
              ·by_cases Gi:j<ps.length+us.length
               ·rw[afI Gi,afG hj,afG hj,afI Gi]
               ·rw[afG Gi,afG hj,afG Gi]
             rw[OT];rw[agE] at hp;by_cases hj:j<ps.length
             ·rw[afI hj] at hp ⊢;obtain⟨u,q1,q2,q3⟩:=Br j p hp;exact⟨u,q1,q2,Il q3⟩
             ·rw[afG hj] at hp ⊢;have UA:=(afs.1 hp).1;have OQ:j-ps.length<us.length:=by rw[←vY.1];exact UA
              rw[afI (by omega)];obtain⟨q1,q2⟩:=vY.2 _ p us[j-ps.length] hp (afp OQ);exact⟨_,afp OQ,q2.kA q1,Il q2⟩
            refine my CE (ob:=some w.heap.size) wi x4 x5 (fun b' fG => ?_) (uh r7 pH (by simp)) (.inr ⟨w.heap.size,grownCap w (len+m) cap el,rfl,rfl,EC,el,_,by unfold World.shape?;rw[r7],?_⟩)
            ·injection fG with fG;subst fG
             exact⟨by simp,fun hI=>ai5 _ (hr.ib _ hI),(.inl hr.aG.size),fun x hx e=>ai5 _ (hr.lb x _ (fk.1 hx).1 e)⟩
            ·rw[←hW];simp only[Array.size_append,List.size_toArray,OS,zF,size_zeroCells,HW,E4,mg];rw[←age,←age];have:len+m+(grownCap w (len+m) cap el-(len+m))=grownCap w (len+m) cap el:=by omega
             rw[this];omega
       ·cases aO
      ·cases aO
     ·cases aO
    ·cases aO
  ·cases aO
 ·cases aO
theorem E7{w:World}{I:Nat→Prop}{y:Value}{m sz:Nat}{qs:List PV}(fu:Src w I y m qs)(hl:qs.length=m*sz)(k:Nat)(hk:k≤m) :
  ∃news,bM I w (qs.take (k*sz)) news∧news.length=k*sz∧(∀(P:Program),(Builtin.firstCells sz k y).run P w = .ok news.toArray w)∧∀(P:Program),(Builtin.lenOf y).run P w = .ok m w:=by
 rcases fu with ⟨ao,c,rfl,rfl,rfl⟩|⟨b,o,c,us,rfl,h1,h2⟩
 ·have:k=0:=by omega
  subst this;refine⟨[],⟨by simp,fun j p u h=>by simp at h⟩,by simp,fun P => ?_,fun P=>rfl⟩;cases ao with
  |none=>rfl
  |some a=>simp[Builtin.firstCells,loadCells,loadCellsFrom]
 ·have hlu:us.length=m*sz:=by rw[←h2.1];exact hl
  have hkm:k*sz≤m*sz:=afw _ hk;refine⟨us.take (k*sz),⟨by simp;omega,fun j p u hp hu => ?_⟩,by simp;omega,fun P => ?_,fun P=>rfl⟩
  ·rw[agh] at hp hu;split at hp
   ·rename_i hj;rw[afI hj] at hu;exact h2.2 j p u hp hu
   ·cases hp
  ·have:=run_loadCells_list (P:=P) w ⟨b,o,none⟩ (us.take (k*sz)) (fun j v hv=>by
    rw[agh] at hv;split at hv
    ·rw[Addr.add_lit];exact h1 j v hv
    ·cases hv)
   rw[afK,agx (by omega)] at this;simpa[Builtin.firstCells] using this
theorem Gj{dT sT ty e:TypeId}{i:TypeInfo}(hu:P.underlying dT=some (.slice e))(hi:P.info? e=some i)(g off UC Zt:Nat){cur:Array Value}{CC:TypeId}(hg:w.heap[g]? = some (.cells cur CC (0,0))){y:Value}{m k:Nat}{qs:List PV}
  (fu:Src w I y m qs) (hl:qs.length=m*i.size) (hk:min m UC=k) (qE:off+k*i.size≤cur.size) :
  ∃news,bM I w (qs.take (k*i.size)) news∧news.length=k*i.size ∧
   (Builtin.copy_ #[dT,sT] ty #[.slice (some ⟨g,off,none⟩) UC Zt,y]).run P w = .ok (goInt k) (w.setRow g (cur.toList.take off++news++cur.toList.drop (off+news.length)).toArray):=by
 obtain⟨news,h1,h2,h3,h4⟩:=E7 fu hl k (by omega);refine⟨news,h1,h2,?_⟩;have aO:=run_storeCells_at P g off CC news 0 cur w hg (by simp;omega) (fun v hv=>by
  obtain⟨j,hj⟩:=ahn.1 hv;have Rk:j<(qs.take (k*i.size)).length:=by rw[h1.1];exact(afs.1 hj).1
  obtain⟨k1,k2⟩:=h1.2 j _ v (afp Rk) hj;exact k2.kA k1)
 simp only[Nat.add_zero] at aO;have OU:Nat.min m UC=k:=hk;simp[Builtin.copy_,run_underlying hu,sizeOf,typeInfo,hi,h4 P,OU,h3 P,aO]
def CF(T:lh)(n:Nat)(o:Oper)(h:Hint)(s:St):Option (St×List Prop) :=
 match o.op,h with
 |.call c,.app k out=>match c.callee,c.args.toList,c.argTypes.toList with
  |.builtin .copy,[x,y],[t1,_]=>bif l7 n o.dst then
    match T.get t1 with
    |some dt=>match dt.kind with
     |.slice el=>match T.get el,dA s.env x,dA s.env y with
      |some de,some (.row r off len sz),some ey=>match s.aK.get r,Ii s.aK r ey with
       |some (.pure ps),some (m,qs,ys)=>bif Nat.beq sz de.size&&Nat.blt r 999999 then
         some (⟨pF s.env o.dst (.pv (.int .i64 (k:Int))),aT.set s.aK r (.pure out)⟩,
          [Ij m sz qs ys,min m len=k,off+k*sz≤ps.length,fg ps off (qs.take (k*sz))=out])
        else none
       |_,_=>none
      |_,_,_=>none
     |_=>none
    |none=>none
   else none
  |_,_,_=>none
 |_,_=>none
theorem CG(hT:oE P T)(hr:Rel Γ s a w)(aO:CF T Γ.n o h s=some (s',ob))(cv:dX ob){K:Act→World→Prop}{Q:Exit→Act→World→Prop}
  (hk:∀a' w',Rel Γ s' a' w'→K a' w'):o.wp P a w K Q:=by
 obtain⟨β,I,hr⟩:=hr;unfold CF at aO;split at aO
 ·rename_i c k out v7;split at aO
  ·rename_i x y t1 t2 sF kO Kc;cases hd:l7 Γ.n o.dst with
   |false=>simp[hd] at aO
   |true =>
    simp only[hd,cond_true] at aO;split at aO
    ·rename_i dt WU;split at aO
     ·rename_i el Nc;obtain⟨un,hu,_,hf⟩:=(hT t1 dt WU).under;rw[Nc] at hf;have hf:un = .slice el:=hf;subst hf;split at aO
      ·rename_i de r off len sz ey pE hx hy;split at aO
       ·rename_i ps m qs ys o0 fu;cases hb20:(Nat.beq sz de.size&&Nat.blt r 999999) with
        |false=>simp[hb20] at aO
        |true =>
         simp only[hb20,cond_true] at aO;rw[afA] at hb20;have tS:=hb20.1;have OK:r<999999:=afv hb20.2;have mg:sz=de.size:=afB tS;injection aO with aO;injection aO with h1 h2
         subst h1;subst h2;obtain⟨g1,cv⟩:=cv.cons;obtain⟨g2,cv⟩:=cv.cons;obtain⟨g3,g4⟩:=cv.cons;have g4:fg ps off (qs.take (k*sz))=out:=g4;obtain⟨i,hi,YI,_,_⟩:=(hT el de pE).info;obtain⟨cl,args,OH⟩:=c;have sF:cl = .builtin .copy:=sF;subst sF;have nD:args = #[x,y]:=Bv kO;have xW:OH = #[t1,t2]:=Bv Kc;subst nD;subst xW;have hS:Src w I (a.eval y) m qs∧qs.length=m*sz:=by
          have hyv:=hr.HI y _ hy;unfold Ii at fu;split at fu
          ·rename_i r2 m2 N9;cases oQ:Nat.beq r2 r with
           |true=>simp[oQ] at fu
           |false =>
            simp only[oQ,cond_false] at fu;split at fu
            ·rename_i qs2 En;injection fu with fu;injection fu with e1 e2;injection e2 with e2 e3
             subst e1;subst e2;subst e3;have g1:qs2.length=m2*sz:=g1;exact⟨LA hyv ((hr.aK.1 r2 _ En).1) g1,g1⟩
            ·cases fu
          ·rename_i ys2;injection fu with fu;injection fu with e1 e2;injection e2 with e2 e3
           subst e1;subst e2;subst e3;have g1:∀row∈ys2,row.length=sz:=g1;exact⟨CB hyv g1,xZ g1⟩
          ·cases fu
         obtain⟨zH,hv⟩:=hr.HI x _ hx;have OV:∀v w',(Builtin.copy_ #[t1,t2] o.type #[a.eval x,a.eval y]).run P w = .ok v w'→(execOp a.eval o).run P w = .ok (.value v) w':=by intro v w' aw;simp[execOp,v7,resolve,invoke,builtin,aw]
         rcases hv with ⟨Ti,H8,hv⟩|⟨b,cap,hb,hv,hc,adf,nn,E3,Zi⟩
         ·
          subst H8;have hk0:k=0:=by rw[←g2];exact Nat.min_zero m
          subst hk0;have ON:ps=[]:=by
           rcases(hr.aK.1 r _ o0).1 with ⟨_,h2⟩|⟨b,arr,elq,hb,_⟩
           ·have h2:ps.map EV.pv=[]:=h2;simpa using h2
           ·rw[Ti] at hb;cases hb
          subst ON;have Kj:out=[]:=by rw[←g4];simp[fg]
          subst Kj;obtain⟨news,_,n2,n3,n4⟩:=E7 hS.1 hS.2 0 (ag0 _);have OL:news=[]:=afr (by simpa using n2);subst OL;have aw:(Builtin.copy_ #[t1,t2] o.type #[a.eval x,a.eval y]).run P w = .ok (goInt 0) w:=by rw[hv];simp[Builtin.copy_,run_underlying hu,sizeOf,typeInfo,hi,YI,←mg,n4 P,n3 P]
          unfold Oper.wp;rw[OV _ _ aw];refine hk _ _ (Rel.RN (s:=⟨pF s.env o.dst (.pv (.int .i64 (0:Nat))),s.aK⟩) ⟨fun _=>rfl,fun z => ?_⟩ ⟨β,I,hr.put (fo hd) (Rd.int _ _)⟩);show(aT.set s.aK r (.pure [])).get z=s.aK.get z;rw[aT.mw];split
          ·rename_i hz;rw[hz.1,o0];rfl
          ·rfl
         ·obtain⟨arr,CC,hg,Tl,pH⟩:=(hr.aK.1 r _ o0).1.block hb;have Tl:ps.length≤arr.size:=by simpa[SC.sG] using Tl
          obtain⟨news,n1,n2,n3⟩:=Gj (ty:=o.type) (sT:=t2) (I:=I) hu hi b off len cap hg hS.1 (by rw[YI,←mg];exact hS.2) g2 (by rw[YI,←mg];omega);rw[YI,←mg] at n1 n2;rw[hv] at OV;unfold Oper.wp;rw[OV _ _ n3];have hlen:(arr.toList.take off++news++arr.toList.drop (off+news.length)).toArray.size=arr.size:=by simp;omega
          have hq:(qs.take (k*sz)).length=k*sz:=n1.1.trans n2;have kT:=hr.write (sc' := .pure out) OK o0 hb hg hlen (fun j e he=>by
           have he:(out.map EV.pv)[j]? = some e:=he;rw[←g4,afu,kd _ _ _ (by rw[hq];exact g3),hq] at he;have mr:(arr.toList.take off++news++arr.toList.drop (off+news.length)).toArray[j]? = if off≤j∧j<off+k*sz then news[j-off]? else arr[j]? := by have:=kd arr.toList off news (by simp;omega) j;unfold fg at this;rw[←ah9] at this;simp only[List.getElem?_toArray];rw[this,n2];simp
           rw[mr];by_cases hj:off≤j∧j<off+k*sz
           ·rw[afI hj] at he ⊢;cases hp:(qs.take (k*sz))[j-off]? with
            |none=>rw[hp] at he;cases he
            |some p =>
             rw[hp] at he;injection he with he;subst he
             have Rk:j-off<news.length:=by rw[n2];omega
             obtain⟨k1,k2⟩:=n1.2 (j-off) p _ hp (afp Rk);exact⟨_,afp Rk,k2.kA k1,k2⟩
           ·rw[afG hj] at he ⊢;exact pH j e (by rw[←he];show(ps.map EV.pv)[j]? = _;rw[afu]))
          exact hk _ _ ⟨β,I,kT.put (fo hd) (Rd.int _ _)⟩
       ·cases aO
      ·cases aO
     ·cases aO
    ·cases aO
  ·cases aO
 ·cases aO
theorem UD(hr:dz Γ s a w β I){r m sz:Nat}{ey:EV}{v:Value}{qs:List PV}{ys:Option (List (List PV))}(fu:Ii s.aK r ey=some (m,qs,ys))(g2:Ij m sz qs ys)(Lz:RE β (bK s.aK) I w ey v):Src w I v m qs∧qs.length=m*sz:=by
 unfold Ii at fu;split at fu
 ·rename_i r2 m2 N9;cases hq:Nat.beq r2 r with
  |true=>simp[hq] at fu
  |false =>
   simp only[hq,cond_false] at fu;split at fu
   ·rename_i Zu YJ;injection fu with fu;injection fu with e1 fu;injection fu with e2 e3
    subst e1;subst e2;subst e3;have Ob:Zu.length=m2*sz:=g2;exact⟨LA Lz (hr.aK.1 r2 _ YJ).1 Ob,Ob⟩
   ·cases fu
 ·rename_i ys';injection fu with fu;injection fu with e1 fu;injection fu with e2 e3
  subst e1;subst e2;subst e3;exact⟨CB Lz g2,xZ g2⟩
 ·cases fu
def LB(T:lh)(n:Nat)(o:Oper)(h:Hint)(s:St):Option (St×List Prop):=x6 Ii T n o h s
theorem ED(hT:oE P T)(hs:∀r,bK Γ.sin r→Γ.n≤r)(hr:Rel Γ s a w)(aO:LB T Γ.n o h s=some (s',ob))(cv:dX ob){K:Act→World→Prop}{Q:Exit→Act→World→Prop}
  (hk:∀a' w',Rel Γ s' a' w'→K a' w'):o.wp P a w K Q:=uj (fun hr=>UD hr) hT hs hr aO cv hk
def Kk:Uv:=fun aK r e =>
 match e with
 |.row r2 off m N9=>bif Nat.beq r2 r then none else match aK.get r2 with
  |some (.pure qs)=>some (m,(qs.drop off).take (m*N9),none)
  |_=>none
 |.pv (.list ys)=>some (ys.length,ys.flatten,some ys)
 |_=>none
theorem OW{r off m sz N9:Nat}{v:Value}{L:Nat→Prop}{qs:List PV}(hv:RE β L I w (.row r off m N9) v)(hb:RB β L I w r (qs.map EV.pv))(hl:((qs.drop off).take (m*N9)).length=m*sz):Src w I v m ((qs.drop off).take (m*N9)):=by
 obtain⟨_,⟨hn,rfl,rfl⟩|⟨b,c,oQ,rfl,_⟩⟩:=hv
 ·exact .inl ⟨none,0,rfl,rfl,by simp⟩
 ·obtain⟨arr,el,hg,Tl,hc⟩:=hb.block oQ;refine .inr ⟨b,off,c,(arr.toList.drop off).take ((qs.drop off).take (m*N9)).length,rfl,fun j u hu => ?_,?_,fun j p u hp hu => ?_⟩
  ·rw[agh] at hu;split at hu
   ·rw[agn] at hu;rw[cell_of_row w b (off+j) arr el (0,0) hg];simpa using hu
   ·cases hu
  ·have hq:qs.length≤arr.size:=by simpa using Tl
   simp only[List.length_take,List.length_drop,Array.length_toList];omega
  ·rw[agh] at hp hu;split at hu
   ·split at hp
    ·rw[agn] at hp hu;obtain⟨u',g1,g2,g3⟩:=hc (off+j) (.pv p) (by rw[afu,hp];rfl);have:u'=u:=by simpa[g1] using hu
     subst this;exact⟨PV.l5 g3 g2,g3⟩
    ·cases hp
   ·cases hu
theorem RQ(hr:dz Γ s a w β I){r m sz:Nat}{ey:EV}{v:Value}{qs:List PV}{ys:Option (List (List PV))}(fu:Kk s.aK r ey=some (m,qs,ys))(g2:Ij m sz qs ys)(Lz:RE β (bK s.aK) I w ey v):Src w I v m qs∧qs.length=m*sz:=by
 unfold Kk at fu;split at fu
 ·rename_i r2 off m2 N9;cases hq:Nat.beq r2 r with
  |true=>simp[hq] at fu
  |false =>
   simp only[hq,cond_false] at fu;split at fu
   ·rename_i Zu YJ;injection fu with fu;injection fu with e1 fu;injection fu with e2 e3
    subst e1;subst e2;subst e3;have Ob:((Zu.drop off).take (m2*N9)).length=m2*sz:=g2;exact⟨OW Lz (hr.aK.1 r2 _ YJ).1 Ob,Ob⟩
   ·cases fu
 ·rename_i ys';injection fu with fu;injection fu with e1 fu;injection fu with e2 e3
  subst e1;subst e2;subst e3;exact⟨CB Lz g2,xZ g2⟩
 ·cases fu
theorem Rel.cut(hr:Rel Γ s a w){r k:Nat}{ps:List PV}(o0:s.aK.get r=some (.pure ps)):Rel Γ ⟨s.env,aT.set s.aK r (.pure (ps.take k))⟩ a w:=by
 obtain⟨β,I,hr⟩:=hr;have hL:∀x,bK s.aK x→bK (aT.set s.aK r (.pure (ps.take k))) x:=fun x hx=>gV.2 hx
 refine⟨β,I,fun t e he=>(hr.env t e he).mono (fun _ _=>rfl) hL (fun _ h=>h) (fun _ _ _=>rfl) (fun _ _ _ _=>rfl),⟨fun x sc hx => ?_,fun x y b hx hy=>hr.aK.2 x y b (gV.1 hx) (gV.1 hy)⟩,
  fun x hx=>hr.par x (gV.1 hx),fun x b hx=>hr.new x b (gV.1 hx),hr.ib,hr.ii,hr.aG,hr.size,hr.defers⟩
 have hx:(aT.set s.aK r (.pure (ps.take k))).get x=some sc:=hx;rw[aT.mw] at hx;by_cases EA:x=r∧r<999999
 ·obtain⟨rfl,OK⟩:=EA;rw[afI ⟨rfl,OK⟩,o0] at hx;simp only[Option.map_some,Option.some.injEq] at hx;subst hx;obtain⟨k1,k2⟩:=hr.aK.1 x _ o0;refine⟨?_,k2⟩;rcases k1 with ⟨c1,c2⟩|⟨b,arr,el,c1,c2,c3⟩
  ·have c2:ps.map EV.pv=[]:=c2;exact .inl ⟨c1,by show(ps.take k).map EV.pv=[];rw[ahh,c2];simp⟩
  ·refine .inr ⟨b,arr,el,c1,c2,fun i e he => ?_⟩;have he:((ps.take k).map EV.pv)[i]? = some e:=he;rw[ahh] at he;have dI:=(afs.1 he).1;rw[afK] at dI;rw[List.getElem?_take_of_lt (by omega)] at he;obtain⟨u,d1,d2,d3⟩:=c3 i e he;exact⟨u,d1,d2,d3.mono (fun _ _=>rfl) hL (fun _ h=>h) (fun _ _ _=>rfl) (fun _ _ _ _=>rfl)⟩
 ·rw[afG EA] at hx;obtain⟨k1,k2⟩:=hr.aK.1 x sc hx;exact⟨k1.mono rfl (fun _ _=>rfl) (fun _ _=>rfl) hL (fun _ h=>h) (fun _ _ _=>rfl) (fun _ _ _ _=>rfl),k2⟩
end
end Go.Proofs.YtcpnocgollpbhaaGreatDoor.Sym
