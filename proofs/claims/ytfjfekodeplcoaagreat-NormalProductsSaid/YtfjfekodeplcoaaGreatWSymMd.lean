/- Lemmas for the statements of this seat. -/
import Derived.Test.YtfjfekodeplcoaaGreatWSymMa
import Derived.Test.YtfjfekodeplcoaaGreatWSymMc
namespace Go.Proofs.YtfjfekodeplcoaaGreat.Sym
open Go Go.RowKit
section
variable {P:Program} {T:ja} {Γ:Ctx} {s s':St} {a:Act} {w:World} {β:Nat→Option Nat} {I:Nat→Prop} {o:Oper} {h:Hint} {ob:List Prop}
theorem Ih{z us:Array Value}{n:Nat}(hz:z.size=n)(hu:us.size=n){v:Value}(hv:v.cells=us):Instr.fill (fun i=>some (i*n,n)) z [(0,v)]=some us:=by
 unfold Instr.fill
 simp only[Nat.zero_mul]
 rw[hv,if_neg (by simp;omega)]
 show some _=some us
 congr 1
 obtain⟨f1,f2⟩:=sm 0 us.toList 0 z
 have CP:us.zipIdx.foldl (fun cs (x:Value×Nat)=>cs.setIfInBounds (0+x.2) x.1) z=(us.toList.zipIdx 0).foldl (fun cs (x:Value×Nat)=>cs.setIfInBounds (0+x.2) x.1) z:=by
  rw[←Array.foldl_toList,Array.toList_zipIdx]
 rw[CP]
 apply Array.ext_getElem?
 intro j
 rw[f2 j]
 simp only[Nat.add_zero,Array.length_toList,Nat.zero_add,Nat.sub_zero,Nat.zero_le,true_and]
 by_cases hj:j<us.size
 ·rw[if_pos ⟨hj,by omega⟩];simp
 ·rw[if_neg (by omega),Array.getElem?_eq_none (by omega),Array.getElem?_eq_none (by omega)]
def tK(T:ja)(n:Nat)(o:Oper)(s:St):Option (St×List Prop) :=
 match o.op,o.dst with
 |.buildSlice t k parts,some d=>match T.get t,parts.toList with
  |some dt,[(0,x)]=>match dt.kind with
   |.slice e=>match T.get e,cA (kill d s).env x with
    |some de,some (.dV fs)=>bif (Nat.beq k 1&&Nat.beq fs.length de.size)&&((Nat.ble 1 de.size&&Nat.ble de.size 4096)&&Nat.blt d n) then rG (kill d s) (some d) ⟨.row d 0 1 de.size,some (.lit (fs.map FE.ev)),[]⟩ else none
    |_,_=>none
   |_=>none
  |_,_=>none
 |_,_=>none
theorem vZ(hT:lH P T)(hs:∀r,aS Γ.sin r→Γ.n≤r)(hr:Rel Γ s a w)(aD:tK T Γ.n o s=some (s',ob)){K:Act→World→Prop}{Q:Exit→Act→World→Prop}
  (hk:∀a' w',Rel Γ s' a' w'→K a' w'):o.wp P a w K Q:=by
 obtain⟨β,I,hr⟩:=hr
 unfold tK at aD
 split at aD
 ·rename_i t k parts d ml ow
  split at aD
  ·rename_i dt x GP qj
   split at aD
   ·rename_i e QE
    split at aD
    ·rename_i de fs lI hx
     cases hb:((Nat.beq k 1&&Nat.beq fs.length de.size)&&((Nat.ble 1 de.size&&Nat.ble de.size 4096)&&Nat.blt d Γ.n)) with
     |false=>simp[hb] at aD
     |true =>
      simp only[hb,cond_true] at aD
      simp only[Bool.and_eq_true] at hb
      obtain⟨⟨ux,nh⟩,⟨OQ,RA⟩,RC⟩:=hb
      have Ek:k=1:=Nat.eq_of_beq_eq_true ux
      have FO:fs.length=de.size:=Nat.eq_of_beq_eq_true nh
      have Xb:1≤de.size:=Nat.le_of_ble_eq_true OQ
      have OE:de.size≤4096:=Nat.le_of_ble_eq_true RA
      subst Ek
      obtain⟨un,hu,_,hf⟩:=(hT t dt GP).under
      rw[QE] at hf
      have hf:un = .slice e:=hf
      subst hf
      have sP:=hr.kill d
      obtain⟨z,hz,_,ta,_⟩:=(hT e de lI).mg w
      have hex:=sP.uD x _ hx
      obtain⟨us,GX,wN,Ro⟩:=hex
      have hp:parts = #[(0,x)]:=GL qj
      subst hp
      have aw:(Instr.buildSlice t 1 (#[(0,x)].map fun (i,x)=>(i,a.eval x))).run P w = .ok (.slice (some ⟨w.heap.size,0,none⟩) 1 1) (w.alloc (.cells us e)):=by
       have AZ:=Ih (z:=(Array.range (1*de.size)).map (z.cells[·%z.cells.size]!)) (us:=us) (n:=de.size) (by simp) (by omega) (v:=a.eval x) (by rw[GX];rfl)
       simp only[Instr.buildSlice,Sem.run_bind,run_underlying hu,Result.andThen_ok,(hT e de lI).run_sizeOf w]
       rw[if_neg (by omega),if_neg (by omega)]
       simp only[Sem.run_bind,hz,Sem.run_pure,Result.andThen_ok]
       have:(#[(0,x)].map fun (i,x)=>(i,a.eval x)).toList=[(0,a.eval x)]:=by simp
       rw[this,AZ]
       rfl
      have pE:qi β (aS (kill d s).sto) I w (some d) ⟨.row d 0 1 de.size,some (.lit (fs.map FE.ev)),[]⟩ (.slice (some ⟨w.heap.size,0,none⟩) 1 1) (w.alloc (.cells us e)):=by
       refine qi.new (el:=e) (arr:=us) sP.lb sP.ib (fun i c hj => ?_) (.inr ⟨1,de.size,rfl,rfl,by omega⟩)
       have hj:(fs.map FE.ev)[i]? = some c:=hj
       rw[List.getElem?_map] at hj
       obtain⟨f,hf,rfl⟩:=Option.map_eq_some_iff.1 hj
       have hi:i<us.size:=by have:=(List.getElem?_eq_some_iff.1 hf).1;omega
       have TL:us[i]? = some us[i]:=Array.getElem?_eq_getElem hi
       obtain⟨e1,e2⟩:=(Ro i f _ hf TL).ev
       exact⟨_,TL,e1,e2⟩
      rw[←ow] at aD pE
      have:=(uF hs sP (by rw[ow];exact RC) pE aD).1
      unfold Oper.wp
      rw[show (execOp a.eval o).run P w = .ok (.value (.slice (some ⟨w.heap.size,0,none⟩) 1 1)) (w.alloc (.cells us e)) from by
       unfold execOp
       simp only[ml,Sem.run_bind,aw,Result.andThen_ok]
       rfl]
      exact hk _ _ this
    ·cases aD
   ·cases aD
  ·cases aD
 ·cases aD
def FV:EV→Bool
 |.pv _=>true
 |.cv _ _ _=>true
 |_=>false
def uQ(es:List EV):Prop:=∀e∈es,FV e=true
def yZ(T:ja)(n:Nat)(o:Oper)(h:Hint)(s:St):Option (St×List Prop) :=
 match o.op,o.dst,h with
 |.call c,some d,.Ko lJ out=>match c.callee,c.args.toList,c.argTypes.toList with
  |.builtin .append,[x,y],[t1,t2]=>bif Nat.beq t1 t2&&Nat.blt d n then
    match T.get t1 with
    |some dt=>match dt.kind with
     |.slice el=>match T.get el,cA s.env x,cA s.env y with
      |some de,some (.row r 0 len sz),some (.row q 0 1 C2)=>match s.sto.get r,s.sto.get q,(kill r s).sto.get d with
       |some O5,some sc2,none=>bif (Nat.beq de.size sz&&Nat.beq sz C2)&&(Nat.beq sc2.jc.length sz&&Nat.blt r n) then
         some (⟨jg (kill r s).env (some d) (.row d 0 lJ sz),(d,out)::(kill r s).sto⟩,
          [uQ out.jc,O5.jc.length=len*sz,len+1=lJ,O5.jc++sc2.jc=out.jc,lJ*de.bytes≤140737488355328,lJ<9223372036854775808])
        else none
       |_,_,_=>none
      |_,_,_=>none
     |_=>none
    |none=>none
   else none
  |_,_,_=>none
 |_,_,_=>none
theorem y0(hT:lH P T)(hs:∀r,aS Γ.sin r→Γ.n≤r)(hr:Rel Γ s a w)(aD:yZ T Γ.n o h s=some (s',ob))(bK:cW ob){K:Act→World→Prop}{Q:Exit→Act→World→Prop}
  (hk:∀a' w',Rel Γ s' a' w'→K a' w'):o.wp P a w K Q:=by
 obtain⟨β,I,hr⟩:=hr
 unfold yZ at aD
 split at aD
 ·rename_i c d lJ out ml ow
  split at aD
  ·rename_i x y t1 t2 jb fZ yA
   cases ux:(Nat.beq t1 t2&&Nat.blt d Γ.n) with
   |false=>simp[ux] at aD
   |true =>
    simp only[ux,cond_true] at aD
    simp only[Bool.and_eq_true] at ux
    have cw:t1=t2:=Nat.eq_of_beq_eq_true ux.1
    have j0:d<Γ.n:=Nat.le_of_ble_eq_true ux.2
    have mh:d<999999:=Nat.lt_of_lt_of_le j0 Γ.small
    subst cw
    split at aD
    ·rename_i dt GP
     split at aD
     ·rename_i el wT
      obtain⟨un,hu,_,hf⟩:=(hT t1 dt GP).under
      rw[wT] at hf
      have hf:un = .slice el:=hf
      subst hf
      split at aD
      ·rename_i de r len sz q C2 lI hx hy
       split at aD
       ·rename_i O5 sc2 MM Rp oB
        cases nh:((Nat.beq de.size sz&&Nat.beq sz C2)&&(Nat.beq sc2.jc.length sz&&Nat.blt r Γ.n)) with
        |false=>simp[nh] at aD
        |true =>
         simp only[nh,cond_true] at aD
         simp only[Bool.and_eq_true] at nh
         obtain⟨⟨OQ,RA⟩,RC,Vn⟩:=nh
         have vP:de.size=sz:=Nat.eq_of_beq_eq_true OQ
         have MN:sz=C2:=Nat.eq_of_beq_eq_true RA
         have OP:sc2.jc.length=sz:=Nat.eq_of_beq_eq_true RC
         have GQ:r<Γ.n:=Nat.le_of_ble_eq_true Vn
         have C0:r<999999:=Nat.lt_of_lt_of_le GQ Γ.small
         subst MN
         injection aD with aD;injection aD with h1 h2
         subst h1;subst h2
         obtain⟨g0,bK⟩:=bK.cons
         obtain⟨g1,bK⟩:=bK.cons
         obtain⟨g3,bK⟩:=bK.cons
         obtain⟨g2,bK⟩:=bK.cons
         obtain⟨g5,g6⟩:=bK.cons
         subst g3
         have g6:len+1<9223372036854775808:=g6
         obtain⟨i,hi,uq,Ka,z,hz,_,ta,_⟩:=(hT el de lI).info
         rw[vP] at uq
         obtain⟨sq,kK⟩:=hr.uD x _ hx
         have xz:=(hr.sto.1 r _ MM).1
         have TM:=(hr.sto.1 q _ Rp).1
         generalize O5.jc=hl at g1 g2 xz
         generalize sc2.jc=es at g2 OP TM
         rw[←g2] at g0
         have EK:¬aS Γ.sin r:=fun h=>by have:=hs r h;omega
         have ni:¬aS Γ.sin d:=fun h=>absurd (hs d h) (Nat.not_le_of_lt j0)
         have nj:¬aS (kill r s).sto d:=by unfold aS;rw[oB];simp
         obtain⟨KD,⟨_,bg,_⟩|⟨b2,c2,HV,rE,_⟩⟩:=hr.uD y _ hy
         ·cases bg
         obtain⟨OC,Rq,Kf,J6,EU⟩:=TM.block HV
         have J6:es.length≤OC.size:=J6
         generalize xW:OC.toList.take sz=us
         have G0:us.length=sz:=by rw[←xW,List.length_take,Array.length_toList];omega
         have Ph:∀k,k<sz→us[k]? = OC[k]? := fun k hk=>by rw[←xW,List.getElem?_take,if_pos hk];simp
         have KF:∀(k:Nat) e,es[k]? = some e→∃u,us[k]? = some u∧u.oneCell'=true∧RE β (aS s.sto) I w e u:=fun k e he=>by
          obtain⟨u,q1,q2,q3⟩:=EU k e he
          exact⟨u,by rw[Ph k (by have:=(List.getElem?_eq_some_iff.1 he).1;omega)];exact q1,q2,q3⟩
         have xC:∀(k:Nat) v,us[k]? = some v→w.cell? ((⟨b2,0,none⟩:Addr).add k)=some v:=fun k v hv=>by
          have hk:k<sz:=by have:=(List.getElem?_eq_some_iff.1 hv).1;omega
          rw[eC,cell_of_row w b2 _ OC Rq (0,0) Kf,Nat.zero_add,←Ph k hk];exact hv
         have EM:∀v∈us,v.oneCell'=true:=fun v hv=>by
          obtain⟨k,hk,Vo⟩:=List.getElem_of_mem hv
          obtain⟨u,q1,q2,_⟩:=KF k es[k] (List.getElem?_eq_getElem (by omega))
          rw[List.getElem?_eq_getElem hk,Vo] at q1
          injection q1 with q1;subst q1;exact q2
         have rr:us.length=1*i.size:=by rw[uq,G0,Nat.one_mul]
         have A2:∀v' w',(Builtin.append_ #[t1,t1] o.type #[a.eval x,a.eval y]).run P w = .ok v' w'→Rel Γ ⟨jg (kill r s).env (some d) (.row d 0 (len+1) sz),(d,out)::(kill r s).sto⟩ (a.put (some d) v') w'→o.wp P a w K Q:=by
          intro v' w' aw gY
          have gV:=sS fZ
          have nO:=sS yA
          obtain⟨cl,args,CY⟩:=c
          simp only at jb gV nO
          subst jb;subst gV;subst nO
          unfold Oper.wp execOp
          simp only[ml,resolve,invoke,builtin,Sem.run_bind,Sem.run_pure,Result.andThen_ok,List.map_toArray,List.map_cons,List.map_nil,aw]
          show K (a.put o.dst v') w'
          rw[ow]
          exact hk _ _ gY
         have lU:(len+1)*i.bytes≤140737488355328:=by rw[Ka];exact g5
         have MD:len+1≤maxLen:=by unfold maxLen;omega
         have Kb:∀b,β r=some b→∀x,aS (bz r s.sto) x→β x≠some b:=fun b hb x hx e =>
          (bW.1 hx).2 (hr.sto.2 x r b (bW.1 hx).1 sq e hb)
         have up:∀{β1:Nat→Option Nat} {w1:World} {e:EV} {v:Value},FV e=true→(∀z,z≠d→β1 z=β z)→(∀z b,aS s.sto z→β z=some b→w1.shape? b=w.shape? b)→(∀b o,I b→w1.cell? ⟨b,o,none⟩=w.cell? ⟨b,o,none⟩)→RE β (aS s.sto) I w e v→RE β1 (fun x=>aS (bz r s.sto) x∨x=d) I w1 e v:=by
          intro β1 w1 e v he MO q9 jb hv
          cases e with
          |pv p=>exact Rd.mono hv (fun _ h=>h) jb
          |cv k m OB =>
           have iO:hc k≠r:=by unfold hc;omega
           have EW:hc k≠d:=Nat.ne_of_gt (Nat.lt_of_lt_of_le mh (show 999999≤hc k by unfold hc;omega))
           obtain⟨e1,e2⟩:=hv
           refine⟨.inl (bW.2 ⟨e1,iO⟩),?_⟩
           rw[MO _ EW]
           rcases e2 with e2|⟨b,c,f1,f2,f3,f4,f5,f6,f7⟩
           ·exact .inl e2
           ·exact .inr ⟨b,c,f1,f2,f3,f4,f5,by rw[q9 _ b e1 f1];exact f6,f7⟩
          |_=>cases he
         have qq:∀(k:Nat) e,out.jc[k]? = some e→FV e=true∧((hl[k]? = some e∧k<hl.length)∨(hl.length≤k∧k<hl.length+sz∧es[k-hl.length]? = some e)):=by
          intro k e he
          rw[←g2] at he
          refine⟨g0 e (List.mem_of_getElem? he),?_⟩
          by_cases Ek:k<hl.length
          ·left
           rw[List.getElem?_append_left Ek] at he
           exact⟨he,Ek⟩
          ·right
           rw[List.getElem?_append_right (by omega)] at he
           have:=(List.getElem?_eq_some_iff.1 he).1
           exact⟨by omega,by omega,he⟩
         rcases kK with ⟨Hs,tC,td⟩|⟨b,cap,j5,td,GK,Ra,nx,q9,rF⟩
         ·subst tC
          have tC:hl=[]:=List.eq_nil_of_length_eq_zero (by omega)
          subst tC
          have aw:=run_append_nil (P:=P) w t1 o.type el i z hu hi hz ⟨b2,0,none⟩ 1 c2 us rr xC (by omega) (by omega) (by simp only[Nat.zero_add] at lU;omega)
          refine A2 _ _ (by rw[td,rE];exact aw) ?_
          have mm:cq Γ s a (w.drew.alloc (.cells (us.toArray++Builtin.zeroCells z.cells (grownCap w 1 0 el-1)) el)) β I :=
           hr.grow (((ur.refl _ _).drew).alloc (Nat.le_refl _) _) (fun b h=>h) (fun b h => .inl h)
          have iv:(w.drew.alloc (.cells (us.toArray++Builtin.zeroCells z.cells (grownCap w 1 0 el-1)) el)).heap[w.heap.size]? = some (.cells (us.toArray++Builtin.zeroCells z.cells (grownCap w 1 0 el-1)) el (0,0)):=heap_alloc_new w.drew _
          have rz:=grownCap_ge w 1 0 el
          refine pT mm (sc:=out) (ob:=some w.heap.size) j0 ni nj (fun b hb => ?_) (.inr ⟨w.heap.size,_,el,by simp,iv,fun k e he => ?_⟩) (.inr ⟨w.heap.size,grownCap w 1 0 el,rfl,by simp,by simpa using rz,el,_,by unfold World.shape?;rw[iv],?_⟩)
          ·injection hb with hb;subst hb
           exact⟨by simp,fun hI=>Nat.lt_irrefl _ (hr.ib _ hI),(.inl hr.aN.size),fun x hx e=>Nat.lt_irrefl _ (hr.lb x _ (bW.1 hx).1 e)⟩
          ·obtain⟨hh,⟨_,cQ⟩|⟨_,cQ,fj⟩⟩:=qq k e he
           ·simp at cQ
           ·obtain⟨u,q1,q2,q3⟩:=KF _ e fj
            simp only[List.length_nil,Nat.sub_zero,Nat.zero_add] at q1 cQ
            refine⟨u,by rw[Array.getElem?_append_left (by rw[List.size_toArray];omega),List.getElem?_toArray];exact q1,q2,up hh (fun z hz=>if_neg hz) (fun z b hz hb=>gU (Below.heap_alloc w.drew _ b (hr.lb z b hz hb))) (fun b o hb=>dM (Below.heap_alloc w.drew _ b (hr.ib b hb)) o) q3⟩
          ·simp only[Array.size_append,List.size_toArray,G0,size_zeroCells,ta,vP,Nat.zero_add]
           have:grownCap w 1 0 el*sz=sz+(grownCap w 1 0 el-1)*sz:=by
            obtain⟨m,hm⟩:∃m,grownCap w 1 0 el=m+1:=⟨grownCap w 1 0 el-1,by omega⟩
            rw[hm,Nat.add_sub_cancel,Nat.succ_mul];omega
           omega
         ·have GR:Γ.Nw b:=hr.new r b sq (.inl EK) j5
          have A1:=((hr.sto.1 r _ MM).2 b j5)
          obtain⟨arr,rh,hg,Et,ot⟩:=xz.block j5
          have Et:hl.length≤arr.size:=Et
          have ot:∀(k:Nat) e,hl[k]? = some e→∃v,arr[k]? = some v∧v.oneCell'=true∧RE β (aS s.sto) I w e v:=ot
          have EL:w.shape? b=some (rh,arr.size):=by unfold World.shape?;rw[hg]
          have vJ:nx=arr.size:=by
           rw[EL] at q9;injection q9 with q9;injection q9 with h1 h2;exact h2.symm
          subst vJ
          have xD:len*i.size=hl.length:=by rw[uq];exact g1.symm
          by_cases lO:len+1≤cap
          ·have Pj:(len+1)*sz≤cap*sz:=Nat.mul_le_mul_right _ lO
           have Pk:hl.length+sz≤arr.size:=by rw[Nat.succ_mul] at Pj;omega
           have aw:=kg (P:=P) hu hi o.type b len cap arr hg ⟨b2,0,none⟩ 1 c2 us rr xC EM lO (by rw[xD,G0];exact Pk)
           refine A2 _ _ (by rw[td,rE];exact aw) ?_
           have yG:(arr.toList.take (len*i.size)++us++arr.toList.drop (len*i.size+us.length)).toArray.size=arr.size:=by
            rw[xD];simp;omega
           have fS:∀k,(arr.toList.take (len*i.size)++us++arr.toList.drop (len*i.size+us.length)).toArray[k]? = if len*i.size≤k∧k<len*i.size+sz then us[k-len*i.size]? else arr[k]? := by
            intro k
            have:=dI arr.toList (len*i.size) us (by rw[xD];simp;omega) k
            unfold cF at this
            rw[←List.append_assoc] at this
            simp only[List.getElem?_toArray]
            rw[this]
            simp only[Array.getElem?_toList,G0]
           have rJ:∀(k:Nat) e,out.jc[k]? = some e→FV e=true∧∃v,(arr.toList.take (len*i.size)++us++arr.toList.drop (len*i.size+us.length)).toArray[k]? = some v∧v.oneCell'=true∧RE β (aS s.sto) I w e v:=by
            intro k e he
            rw[fS k]
            obtain⟨hh,⟨hp,cQ⟩|⟨rz,cQ,fj⟩⟩:=qq k e he
            ·rw[if_neg (by omega)]
             exact⟨hh,ot k e hp⟩
            ·rw[if_pos (by omega),xD]
             exact⟨hh,KF _ e fj⟩
           have MF:=hr.write (sc':=out) C0 MM j5 hg yG (fun k e he=>(rJ k e he).2)
           have rK:bz r (aG.set s.sto r out)=bz r s.sto:=oC r _ s.sto
           have EN:kill r ⟨s.env,aG.set s.sto r out⟩=kill r s:=by unfold kill;simp only[rK]
           have yX:∀k',(w.setRow b (arr.toList.take (len*i.size)++us++arr.toList.drop (len*i.size+us.length)).toArray).shape? k'=w.shape? k':=fun k'=>kT w b k' _ arr rh (0,0) hg yG
           have QH:∀b' o',I b'→(w.setRow b (arr.toList.take (len*i.size)++us++arr.toList.drop (len*i.size+us.length)).toArray).cell? ⟨b',o',none⟩=w.cell? ⟨b',o',none⟩:=fun b' o' cI=>by
            have iO:b'≠b:=fun e=>A1.2 (e ▸ cI)
            exact dM (by show(w.heap.modify b _)[b']? = _;rw[Array.getElem?_modify,if_neg (Ne.symm iO)]) o'
           have yH:=pT MF (r:=r) (d:=d) (len:=len+1) (sz:=sz) (sc:=out) (v := .slice (some ⟨b,0,none⟩) (len+1) cap) (ob:=some b) j0 ni (by rw[rK];exact nj)
            (fun b' cI=>by
             injection cI with cI;subst cI
             rw[rK]
             exact⟨by simpa[World.setRow] using A1.1,A1.2,GR,Kb b j5⟩)
            (.inr ⟨b,_,rh,by simp,setRow_heap w b arr _ rh (0,0) hg,fun k e he=>by
             obtain⟨hh,v,q1,q2,q3⟩:=rJ k e he
             rw[rK]
             exact⟨v,q1,q2,up hh (fun z hz=>if_neg hz) (fun z b' _ _=>yX b') QH q3⟩⟩)
            (.inr ⟨b,cap,rfl,rfl,lO,rh,arr.size,by rw[yX b];exact EL,rF⟩)
           rw[EN] at yH
           exact yH
          ·have yI:(arr.toList.take hl.length).length=len*i.size:=by simp;omega
           have holds:∀(k:Nat) v,(arr.toList.take hl.length)[k]? = some v→w.cell? ((⟨b,0,none⟩:Addr).add k)=some v:=by
            intro k v hv
            rw[eC,Nat.zero_add,cell_of_row w b k arr rh (0,0) hg]
            rw[List.getElem?_take] at hv
            split at hv
            ·simpa using hv
            ·cases hv
           have aw:=run_append_grow (P:=P) w t1 o.type el i z hu hi hz ⟨b,0,none⟩ len cap (arr.toList.take hl.length) yI holds ⟨b2,0,none⟩ 1 c2 us rr xC (by omega) (by omega) (growslice_fits (by omega) lU)
           refine A2 _ _ (by rw[td,rE];exact aw) ?_
           generalize hW:((arr.toList.take hl.length).toArray++us.toArray++Builtin.zeroCells z.cells (grownCap w (len+1) cap el-(len+1)):Array Value)=narr
           have mm:cq Γ s a (w.drew.alloc (.cells narr el)) β I :=
            hr.grow (((ur.refl _ _).drew).alloc (Nat.le_refl _) _) (fun b h=>h) (fun b h => .inl h)
           have iv:(w.drew.alloc (.cells narr el)).heap[w.heap.size]? = some (.cells narr el (0,0)):=heap_alloc_new w.drew _
           have rz:=grownCap_ge w (len+1) cap el
           have Ed:(arr.toList.take hl.length).length=hl.length:=by simp;omega
           refine pT mm (sc:=out) (ob:=some w.heap.size) j0 ni nj (fun b' cI => ?_) (.inr ⟨w.heap.size,_,el,by simp,iv,fun k e he => ?_⟩) (.inr ⟨w.heap.size,grownCap w (len+1) cap el,rfl,rfl,rz,el,_,by unfold World.shape?;rw[iv],?_⟩)
           ·injection cI with cI;subst cI
            exact⟨by simp,fun hI=>Nat.lt_irrefl _ (hr.ib _ hI),(.inl hr.aN.size),fun x hx e=>Nat.lt_irrefl _ (hr.lb x _ (bW.1 hx).1 e)⟩
           ·have uJ:narr[k]? = if k<hl.length then arr[k]? else if k<hl.length+sz then us[k-hl.length]? else (Builtin.zeroCells z.cells (grownCap w (len+1) cap el-(len+1)))[k-(hl.length+sz)]? := by
             rw[←hW,Array.getElem?_append,Array.getElem?_append]
             simp only[Array.size_append,List.size_toArray,Ed,List.getElem?_toArray,G0]
             by_cases hj:k<hl.length
             ·rw[if_pos (by omega),if_pos hj,if_pos hj,List.getElem?_take,if_pos hj];simp
             ·by_cases xE:k<hl.length+sz
              ·rw[if_pos xE,if_neg hj,if_neg hj,if_pos xE]
              ·rw[if_neg xE,if_neg hj,if_neg xE]
            have yX:∀z b,aS s.sto z→β z=some b→(w.drew.alloc (.cells narr el)).shape? b=w.shape? b:=fun z b hz hb=>gU (Below.heap_alloc w.drew _ b (hr.lb z b hz hb))
            have QH:∀b o,I b→(w.drew.alloc (.cells narr el)).cell? ⟨b,o,none⟩=w.cell? ⟨b,o,none⟩:=fun b o hb=>dM (Below.heap_alloc w.drew _ b (hr.ib b hb)) o
            obtain⟨hh,⟨hp,cQ⟩|⟨Vp,cQ,fj⟩⟩:=qq k e he
            ·obtain⟨v,q1,q2,q3⟩:=ot k e hp
             exact⟨v,by rw[uJ,if_pos cQ];exact q1,q2,up hh (fun z hz=>if_neg hz) yX QH q3⟩
            ·obtain⟨u,q1,q2,q3⟩:=KF _ e fj
             exact⟨u,by rw[uJ,if_neg (by omega),if_pos (by omega)];exact q1,q2,up hh (fun z hz=>if_neg hz) yX QH q3⟩
           ·rw[←hW]
            simp only[Array.size_append,List.size_toArray,yI,G0,size_zeroCells,ta,vP,uq,Nat.zero_add]
            have:grownCap w (len+1) cap el*sz=len*sz+sz+(grownCap w (len+1) cap el-(len+1))*sz:=by
             obtain⟨m,hm⟩:∃m,grownCap w (len+1) cap el=len+1+m:=⟨grownCap w (len+1) cap el-(len+1),by omega⟩
             rw[hm,Nat.add_sub_cancel_left,Nat.add_mul,Nat.succ_mul]
            omega
       ·cases aD
      ·cases aD
     ·cases aD
    ·cases aD
  ·cases aD
 ·cases aD
theorem wa(x:ByteArray×Nat×Nat)(H:List (ByteArray×Nat×Nat))(z:Nat):bodE (x::H) z = .pv (.str x.1) :: .cv x.2.1 x.2.2 z::bodE H z:=rfl
theorem ss{z:Nat} : ∀H:List (ByteArray×Nat×Nat),uQ (bodE H z)
 |[]=>fun e he=>by cases he
 |x::H=>fun e he=>by
  rw[wa] at he
  rcases List.mem_cons.1 he with rfl|he
  ·rfl
  ·rcases List.mem_cons.1 he with rfl|he
   ·rfl
   ·exact ss H e he
def wb:SC→Prop
 |.pure _=>True
 |.fY _ _=>True
 |.lit cs=>uQ cs
 |_=>False
theorem wb.jc{sc:SC}(h:wb sc):uQ sc.jc:=by
 cases sc with
 |pure ps =>
  intro e he
  obtain⟨p,_,rfl⟩:=List.mem_map.1 he
  rfl
 |fY hs sz=>exact ss hs
 |lit cs=>exact h
 |heap _=>exact h.elim
 |gk _ _=>exact h.elim
theorem RB.LL{β β':Nat→Option Nat}{L L' I:Nat→Prop}{w:World}{r r':Nat}{es:List EV}(he:uQ es)(h:RB β L I w r es)(hb:β' r'=β r)(hh:∀j,L (hc j)→L' (hc j)∧β' (hc j)=β (hc j)):RB β' L' I w r' es:=by
 rcases h with ⟨h1,h2⟩|⟨b,arr,el,h1,h2,h3⟩
 ·exact .inl ⟨hb.trans h1,h2⟩
 ·refine .inr ⟨b,arr,el,hb.trans h1,h2,fun j e hj => ?_⟩
  obtain⟨u,q1,q2,q3⟩:=h3 j e hj
  refine⟨u,q1,q2,?_⟩
  have hx:=he e (List.mem_of_getElem? hj)
  cases e with
  |pv p=>exact q3
  |cv k m sz =>
   obtain⟨e1,e2⟩:=q3
   obtain⟨f1,f2⟩:=hh k e1
   exact⟨f1,by rw[f2];exact e2⟩
  |_=>cases hx
theorem rR{l:aG}{xs:List (Option (List PV))}(x:Nat):aG.get ((999999,.heap xs)::l) x=if x<999999 then l.cp x else if x<1000000 then none else cY xs (x-1000000):=by
 rcases sQ x with h|rfl|⟨j,rfl⟩
 ·rw[aG.dX h,if_pos h]
  simp only[aG.cp,di (show 999999≠x by omega),cond_false]
 ·rw[aG.cM,if_neg (by omega),if_pos (by omega)]
 ·rw[aG.cU,if_neg (by unfold hc;omega),if_neg (by unfold hc;omega),show hc j-1000000=j by unfold hc;omega]
  rfl
def wc(P:Program)(n:Nat)(o:Oper)(h:Hint)(s:St):Option (St×List Prop) :=
 match o.op,h with
 |.call c,.FK news fs sout xs=>match c.callee,kh s.env c.args.toList,wU (assoc news) fs with
  |.value (.func f),some ps,some gs=>bif (gp n o.dst&&tJ n s.sto news)&&((sout.all (fun p=>Nat.blt p.1 999999&&(assoc news p.1).isSome)&&news.all (fun p=>Nat.blt p.1 999999))&&(s.sto.cp 999999).isNone) then
    some (⟨jg s.env o.dst (.dV gs),(999999,.heap xs)::xJ news sout s.sto⟩,[∀p∈sout,wb p.2,av P f (ps.map EV.pv) [] (.dV fs) ((999999,.heap xs)::sout)]) else none
  |_,_,_=>none
 |_,_=>none
open Classical in
theorem xL(hs:∀r,aS Γ.sin r→Γ.n≤r)(hr:Rel Γ s a w)(aD:wc P Γ.n o h s=some (s',ob))(bK:cW ob){K:Act→World→Prop}{Q:Exit→Act→World→Prop}
  (hk:∀a' w',Rel Γ s' a' w'→K a' w'):o.wp P a w K Q:=by
 obtain⟨β,I,hr⟩:=hr
 unfold wc at aD
 split at aD
 ·rename_i c news fs sout xs ml
  split at aD
  ·rename_i f ps gs jb jf LK
   cases hb:((gp Γ.n o.dst&&tJ Γ.n s.sto news)&&((sout.all (fun p=>Nat.blt p.1 999999&&(assoc news p.1).isSome)&&news.all (fun p=>Nat.blt p.1 999999))&&(s.sto.cp 999999).isNone)) with
   |false=>simp[hb] at aD
   |true =>
    simp only[hb,cond_true] at aD
    simp only[Bool.and_eq_true] at hb
    obtain⟨⟨d1,d2⟩,⟨d3,d4⟩,d5⟩:=hb
    rw[List.all_eq_true] at d3 d4
    have d5:=Option.isNone_iff_eq_none.1 d5
    have Ry:Γ.n≤999999:=Γ.small
    have yQ:∀p∈sout,p.1<999999:=fun p hp=>by
     have:=d3 p hp
     simp only[Bool.and_eq_true] at this
     exact Nat.le_of_ble_eq_true this.1
    have TN:∀{y d:Nat},(y,d)∈news→y<999999:=fun hm=>Nat.le_of_ble_eq_true (d4 _ hm)
    injection aD with aD;injection aD with h1 h2
    subst h1;subst h2
    obtain⟨Vq,zc⟩:=bK.cons
    have zc:av P f (ps.map EV.pv) [] (.dV fs) ((999999,.heap xs)::sout):=zc
    generalize hSd:((999999,.heap xs)::sout:aG)=S at zc
    have hS:=fun x=>rR (l:=sout) (xs:=xs) x
    rw[hSd] at hS
    have TP:∀y,y<999999→aG.get S y=aG.get sout y:=fun y hy=>by rw[hS,if_pos hy,aG.dX hy]
    have TQ:∀y,1000000≤y→aG.get S y=cY xs (y-1000000):=fun y hy=>by rw[hS,if_neg (by omega),if_neg (by omega)]
    have RD:aG.get S 999999=none:=by rw[hS];rfl
    have EP:∀x,999999≤x→s.sto.get x=none:=fun x hx=>by
     rcases sQ x with h|rfl|⟨j,rfl⟩
     ·omega
     ·exact aG.cM
     ·rw[aG.cU]
      unfold aG.hp
      rw[d5]
      unfold cY
      simp
    obtain⟨cl,args,CY⟩:=c
    have jb:cl = .value (.func f):=jb
    subst jb
    obtain⟨MU,MV⟩:=mn hr args.toList ps jf
    unfold Oper.wp
    rw[pM zc.1 ml]
    rw[Oper.upon_enter]
    refine(zc.2 I w β (args.map a.eval) hr.ib (jF _ _ _) (by simp;simpa using MU.symm) (fun i e v he hv => ?_) hr.lay.nil).mono fun e w' hp => ?_
    ·rw[List.getElem?_map] at he
     obtain⟨p,hp,rfl⟩:=Option.map_eq_some_iff.1 he
     simp only[Array.getElem?_map] at hv
     obtain⟨x,hx,rfl⟩:=Option.map_eq_some_iff.1 hv
     exact MV i p x hp (by simpa using hx)
    ·obtain⟨v,β',rfl,_,p2,p3,p4,p5⟩:=hp
     have hM:∀b,¬∃x,aS [] x∧β x=some b:=fun b ⟨x,hx,_⟩=>ez hx
     have hG:∀b,¬xy [] β b:=fun b ⟨x,_,hx,_⟩=>ez hx
     generalize xZ:(fun b=>I b∨((fresh w w' b∨xy [] β b)∧∀x,aS S x→β' x≠some b))=I' at p3 p4
     have hm:=hr.Da (M:=fun b=>∃x,aS [] x∧β x=some b) (I':=I') p2 (fun b _=>hM b) (fun _ b _ _=>hM b) (fun b _ hb=>absurd hb (hM b)) (fun b hI=>by rw[←xZ];exact .inl hI)
      (fun b hI=>by
       rw[←xZ] at hI
       rcases hI with hI|⟨hI|hI,_⟩
       ·exact .inl hI
       ·exact .inr (.inl hI)
       ·exact absurd hI (hG b))
     have Pd:∀x b,aS S x→β' x=some b→fresh w w' b:=fun x b hx hb=>(p5 x b hx ez hb).resolve_right (hG b)
     generalize hO:(fun x:Nat=>if x<999999 then et news x else some x)=orig
     have RF:∀x,x<999999→orig x=et news x:=fun x hx=>by rw[←hO];exact if_pos hx
     have QI:∀x,999999≤x→orig x=some x:=fun x hx=>by rw[←hO];exact if_neg (by omega)
     generalize hN:(fun x:Nat=>∃y,orig x=some y∧aS S y)=N
     generalize hβ2:(fun x:Nat=>if N x then (orig x).bind β' else β x)=β2
     have Pm:=yY Ry (sto:=s.sto) d2 sout yQ
     have qX:∀x,aG.get ((999999,.heap xs)::xJ news sout s.sto) x=match (orig x).bind (aG.get S) with
       |some sc=>some sc
       |none=>s.sto.get x:=fun x=>by
      rw[rR]
      by_cases h9:x<999999
      ·rw[if_pos h9,←aG.dX h9,Pm,RF x h9]
       cases h1:et news x with
       |none=>rfl
       |some y =>
        simp only[Option.bind_some]
        rw[TP y (TN (dY h1))]
        cases aG.get sout y<;>rfl
      ·rw[if_neg h9,QI x (by omega),Option.bind_some,EP x (by omega)]
       by_cases bg:x<1000000
       ·have:x=999999:=by omega
        subst this
        rw[RD];rfl
       ·rw[if_neg bg,TQ x (by omega)]
        cases cY xs (x-1000000)<;>rfl
     have oG:∀x,N x→∃y,orig x=some y∧aS S y∧β2 x=β' y∧s.sto.get x=none∧((x<Γ.n∧assoc news y=some x∧y<999999)∨(1000000≤x∧y=x)):=fun x hx=>by
      have qV:=hx
      rw[←hN] at qV
      obtain⟨y,h1,h2⟩:=qV
      refine⟨y,h1,h2,by rw[←hβ2];simp only[if_pos hx,h1,Option.bind_some],?_⟩
      by_cases h9:x<999999
      ·rw[RF x h9] at h1
       obtain⟨g1,g2,g3,g4⟩:=jm d2 (dY h1)
       exact⟨g2,.inl ⟨g1,g3,TN (dY h1)⟩⟩
      ·rw[QI x (by omega)] at h1
       injection h1 with h1;subst h1
       refine⟨EP x (by omega),.inr ⟨?_,rfl⟩⟩
       by_cases bg:x=999999
       ·subst bg;unfold aS at h2;rw[RD] at h2;cases h2
       ·omega
     have TR:∀j,aS S (hc j)→N (hc j)∧β2 (hc j)=β' (hc j):=fun j hj=>by
      have TS:N (hc j):=by rw[←hN];exact⟨hc j,QI _ (by unfold hc;omega),hj⟩
      exact⟨TS,by rw[←hβ2];simp only[if_pos TS,QI (hc j) (by unfold hc;omega),Option.bind_some]⟩
     have TT:∀x,N x→aS ((999999,.heap xs)::xJ news sout s.sto) x:=fun x hx=>by
      obtain⟨y,h1,h2,_⟩:=oG x hx
      obtain⟨sc,gD⟩:=Option.isSome_iff_exists.1 h2
      unfold aS
      rw[qX,h1,Option.bind_some,gD];rfl
     have FT:∀y d,aS S y→assoc news y=some d→β2 d=β' y∧aS ((999999,.heap xs)::xJ news sout s.sto) d:=fun y d hy hd=>by
      obtain⟨g1,g2,g3,g4⟩:=jm d2 (fD hd)
      have ho:orig d=some y:=by rw[RF d (by omega)];exact g4
      have Pf:N d:=by rw[←hN];exact⟨y,ho,hy⟩
      exact⟨by rw[←hβ2];simp only[if_pos Pf,ho,Option.bind_some],TT d Pf⟩
     have hx:=hm.ext (sto':=(999999,.heap xs)::xJ news sout s.sto) (β':=β2) (N:=N)
      (fun x hx=>by
       rw[qX]
       cases h1:orig x with
       |none=>rfl
       |some y =>
        rw[Option.bind_some]
        have:¬aS S y:=fun h=>hx (by rw[←hN];exact⟨y,h1,h⟩)
        unfold aS at this
        cases h2:aG.get S y with
        |none=>rfl
        |some sc=>rw[h2] at this;exact absurd rfl this)
      (fun x hx=>by
       obtain⟨y,_,_,_,h2,h3⟩:=oG x hx
       refine⟨by unfold aS;rw[h2];simp,?_⟩
       rcases h3 with ⟨h3,_⟩|⟨h3,_⟩
       ·exact .inl (fun h=>absurd (hs _ h) (Nat.not_le_of_lt h3))
       ·exact .inr (by unfold gv;omega))
      (fun x hx=>by rw[←hβ2];simp only[if_neg hx])
      (fun x b hx hb=>by
       obtain⟨y,MX,hy,qT,_,TU⟩:=oG x hx
       rw[qT] at hb
       obtain⟨sc,gD⟩:=Option.isSome_iff_exists.1 hy
       have GN:=Pd y b hy hb
       refine⟨((p3.1 y sc gD).2 b hb).1,((p3.1 y sc gD).2 b hb).2,.inl (Nat.le_trans hr.aN.size GN.1),fun q hq e => ?_,fun x' qV cI => ?_⟩
       ·have:=hr.lb q b hq e;have:=GN.1;omega
       ·obtain⟨y',Vr,yT,Ig,_,RG⟩:=oG x' qV
        rw[Ig] at cI
        have:=p3.2 y y' b hy yT hb cI
        subst this
        rcases TU with ⟨_,g1,g2⟩|⟨g1,g2⟩<;>rcases RG with ⟨_,LH,FQ⟩|⟨LH,FQ⟩
        ·rw[g1] at LH;injection LH
        ·omega
        ·omega
        ·omega)
      (fun x sc hx hg=>by
       obtain⟨y,MX,hy,qT,hn,TU⟩:=oG x hx
       rw[qX,MX,Option.bind_some] at hg
       obtain⟨sc',gD⟩:=Option.isSome_iff_exists.1 hy
       rw[gD] at hg
       injection hg with hg;subst hg
       have hH:uQ sc'.jc:=by
        by_cases h9:y<999999
        ·rw[TP y h9] at gD
         exact(Vq _ (aG.uN yQ gD)).jc
        ·have bg:1000000≤y:=by
          by_cases bg:y=999999
          ·subst bg;rw[RD] at gD;cases gD
          ·omega
         rw[TQ y bg] at gD
         unfold cY at gD
         split at gD
         ·injection gD with gD;subst gD
          exact wb.jc (sc := .pure _) True.intro
         ·cases gD
       exact RB.LL hH (p3.1 y sc' gD).1 qT (fun j hj=>⟨TT _ (TR j hj).1,(TR j hj).2⟩))
     refine hk _ _ ⟨β2,I',hx.put (c9 d1) ?_⟩
     obtain⟨us,q1,q2,q3⟩:=p4
     obtain⟨l1,l2⟩:=qt LK
     refine⟨us,q1,by rw[q2,l1],fun j g u hg hu => ?_⟩
     obtain⟨f0,Pg,Rz⟩:=l2 j g hg
     have h3:=q3 j f0 u Pg hu
     rcases Rz with ⟨p,rfl,rfl⟩|⟨y,d,off,len,sz,rfl,rfl,O8⟩
     ·exact h3
     ·obtain⟨r2,r3⟩:=FT y d h3.1 O8
      exact⟨r3,by rw[r2];exact h3.2⟩
  ·cases aD
 ·cases aD
theorem av.RH{f:FuncId}{args:List EV}{sin sout pU:aG}{fs:List FE}(zc:av P f args sin (.dV fs) sout)
  (hs:∀x sc,aG.get pU x=some sc→aG.get sout x=some sc∧uQ sc.jc) (hh:∀j,aS sout (hc j)→aS pU (hc j)) (BB:∀r off len sz,FE.row r off len sz∈fs→aS pU r) (MZ:∀j len sz,FE.cv j len sz ∉ fs:=by simp):av P f args sin (.dV fs) pU:=by
 have hd:∀x,aS pU x→aS sout x:=fun x hx=>by
  obtain⟨sc,h⟩:=Option.isSome_iff_exists.1 hx
  unfold aS;rw[(hs x sc h).1];rfl
 refine⟨zc.1,fun I w β vs hI AD GO hv hy=>(zc.2 I w β vs hI AD GO hv hy).mono fun e w' hp => ?_⟩
 obtain⟨v,β',rfl,p1,p2,p3,p4,p5⟩:=hp
 have ER:∀b,(I b∨((fresh w w' b∨xy sin β b)∧∀x,aS sout x→β' x≠some b))→(I b∨((fresh w w' b∨xy sin β b)∧∀x,aS pU x→β' x≠some b)) :=
  fun b hb=>hb.imp id (fun h=>⟨h.1,fun x hx=>h.2 x (hd x hx)⟩)
 refine⟨v,β',rfl,p1,p2,⟨fun r sc hr => ?_,fun r r' b h1 h2 h3 h4=>p3.2 r r' b (hd r h1) (hd r' h2) h3 h4⟩,?_,fun x b hx=>p5 x b (hd x hx)⟩
 ·obtain⟨g1,g2⟩:=hs r sc hr
  obtain⟨q1,q2⟩:=p3.1 r sc g1
  refine⟨?_,fun b hb=>⟨(q2 b hb).1,fun xZ => ?_⟩⟩
  ·have:=RB.LL (L':=aS pU) (r':=r) g2 q1 rfl (fun j hj=>⟨hh j hj,rfl⟩)
   rcases this with ⟨c1,c2⟩|⟨b,arr,el,c1,c2,c3⟩
   ·exact .inl ⟨c1,c2⟩
   ·refine .inr ⟨b,arr,el,c1,c2,fun i e he => ?_⟩
    obtain⟨u,d1,d2,d3⟩:=c3 i e he
    exact⟨u,d1,d2,d3.mono (fun _ _=>rfl) (fun _ h=>h) ER (fun _ _ _=>rfl) (fun _ _ _ _=>rfl)⟩
  ·rcases xZ with xZ|xZ
   ·exact(q2 b hb).2 (.inl xZ)
   ·exact xZ.2 r (by unfold aS;rw[hr];rfl) hb
 ·obtain⟨us,q1,q2,q3⟩:=p4
  refine⟨us,q1,q2,fun j g u hg hu => ?_⟩
  have:=q3 j g u hg hu
  cases g with
  |pv p=>exact⟨this.1,this.2.mono ER (fun _ _ _=>rfl)⟩
  |row r off len sz=>exact⟨BB r off len sz (List.mem_of_getElem? hg),this.2⟩
  |cv j len sz=>exact absurd (List.mem_of_getElem? hg) (MZ j len sz)
end
end Go.Proofs.YtfjfekodeplcoaaGreat.Sym
