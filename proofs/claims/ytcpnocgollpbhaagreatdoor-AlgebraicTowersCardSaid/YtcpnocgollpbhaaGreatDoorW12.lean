/- Lemmas for the statements of this seat. -/
import Derived.Test.YtcpnocgollpbhaaGreatDoorW11
namespace Go.Proofs.YtcpnocgollpbhaaGreatDoor.Sym
open Go Go.RowKit
set_option linter.unusedVariables false
set_option linter.unusedSimpArgs false
section
variable {P:Program} {T:lh} {Γ:Ctx} {s s':St} {a:Act} {w:World} {β:Nat→Option Nat} {I:Nat→Prop} {o:Oper} {h:Hint} {ob:List Prop}
theorem x7{m:Nat}(h:m<9223372036854775808):IntKind.i64.wrap (m:Int)=m:=by have:=IntKind.wrap_i64 (m:Int);omega
theorem se{t t2 e:TypeId}{de:TD}(hu:P.underlying t=some (.slice e))(H3:P.underlying t2=some (.int .i64))(hd:qD P e de)(ty:TypeId)(ao:Option Addr)(len cap:Nat)(hc:len≤cap) :
  (Builtin.append_ #[t,t2] ty #[.slice ao len cap,.int .i64 ((0:Nat):Int)]).run P w = .ok (.slice ao len cap) w:=by
 obtain⟨i,hi,_,_,Zh⟩:=hd.run_typeInfo w;have hw:IntKind.i64.wrap (0:Int)=0:=x7 (m:=0) (by omega);cases ao<;>simp[Builtin.append_,run_underlying hu,run_underlying H3,hd.run_sizeOf w,hi,Zh,asInt,asIntOf,hw,hc,storeCells]
theorem Bw(t t2 ty e:TypeId)(i:TypeInfo)(z:Value)(ht:P.underlying t=some (.slice e))(H3:P.underlying t2=some (.int .i64))(hi:P.info? e=some i)(hz:i.zero=some z)
  (n:Nat) (us:List Value) (Ex:us=(Builtin.zeroCells z.cells n).toList)
  (h0:0<n) (Oc:0<i.size) (Zv:(n:Int)≤9223372036854775807) (WY:n*i.bytes≤281474976710656) :
  (Builtin.append_ #[t,t2] ty #[.slice none 0 0,.int .i64 (n:Int)]).run P w =
   .ok (.slice (some ⟨w.heap.size,0,none⟩) n (grownCap w n 0 e)) (w.drew.alloc (.cells (us.toArray++Builtin.zeroCells z.cells (grownCap w n 0 e-n)) e)):=by
 subst Ex;have hn:n≠0:=by omega
 have Ie:¬(n*i.size=0):=fun h=>by rcases aiS.1 h with h|h<;>omega
 have hw:=x7 (m:=n) (by omega);have dI:¬((n:Int)<0):=by omega
 have Tm:¬(281474976710656<(n:Int)*(i.bytes:Int)):=by have OE:((n*i.bytes:Nat):Int)≤((281474976710656:Nat):Int):=aiI.2 WY;rw[agf] at OE;have h7:((281474976710656:Nat):Int)=281474976710656:=rfl;omega
 have UE:¬(9223372036854775807<(n:Int)):=by omega
 have UF:¬(281474976710656<Builtin.nextslicecap n 0*i.bytes):=by rw[nextslicecap_zero h0];omega
 simp[Builtin.append_,run_underlying ht,run_underlying H3,sizeOf,typeInfo,zeroValue,hi,hz,asInt,asIntOf,hw,dI,Tm,hn,Ie,UE,UF,Question.forced,run_firstCells_none,newRow,grownCap]
theorem zN{t t2 e CC:TypeId}{i:TypeInfo}{z:Value}(ht:P.underlying t=some (.slice e))(H3:P.underlying t2=some (.int .i64))(hi:P.info? e=some i)(hz:i.zero=some z)(ty:TypeId)
  (g mh v8:Nat) (cur:Array Value) (hg:w.heap[g]? = some (.cells cur CC (0,0)))
  (m:Nat) (us:List Value) (Ex:us=(Builtin.zeroCells z.cells m).toList) (hl:us.length=m*i.size) (h1:∀u∈us,u.oneCell'=true) (h0:0<m) (Oc:0<i.size)
  (ui:mh+m≤v8) (qE:mh*i.size+us.length≤cur.size) (Zv:m<9223372036854775808) (WY:m*i.bytes≤281474976710656) :
  (Builtin.append_ #[t,t2] ty #[.slice (some ⟨g,0,none⟩) mh v8,.int .i64 (m:Int)]).run P w =
   .ok (.slice (some ⟨g,0,none⟩) (mh+m) v8) (w.setRow g (cur.toList.take (mh*i.size)++us++cur.toList.drop (mh*i.size+us.length)).toArray):=by
 have aO:=run_storeCells_at P g (mh*i.size) CC us 0 cur w hg (by simpa using qE) h1;simp only[Nat.add_zero] at aO;have hn:m≠0:=by omega
 have Ie:¬(m*i.size=0):=fun h=>by rcases aiS.1 h with h|h<;>omega
 have hw:=x7 Zv;have dI:¬((m:Int)<0):=by omega
 have Tm:¬(281474976710656<(m:Int)*(i.bytes:Int)):=by have OE:((m*i.bytes:Nat):Int)≤((281474976710656:Nat):Int):=aiI.2 WY;rw[agf] at OE;have h7:((281474976710656:Nat):Int)=281474976710656:=rfl;omega
 subst Ex;simp[Builtin.append_,run_underlying ht,run_underlying H3,sizeOf,typeInfo,zeroValue,hi,hz,asInt,asIntOf,hw,dI,Tm,hn,Ie,ui,Addr.add_lit] at aO ⊢;rw[aO];rfl
theorem zO(t t2 ty e:TypeId)(i:TypeInfo)(z:Value)(ht:P.underlying t=some (.slice e))(H3:P.underlying t2=some (.int .i64))(hi:P.info? e=some i)(hz:i.zero=some z)
  (b:Addr) (mh v8:Nat) (RR:List Value) (E8:RR.length=mh*i.size) (holds:∀j v,RR[j]? = some v→w.cell? (b.add j)=some v)
  (n:Nat) (us:List Value) (Ex:us=(Builtin.zeroCells z.cells n).toList) (h0:0<n) (Oc:0<i.size)
  (hg:v8<mh+n) (Zv:((mh+n:Nat):Int)≤9223372036854775807) (WY:n*i.bytes≤281474976710656) (qE:Builtin.nextslicecap (mh+n) v8*i.bytes≤281474976710656) :
  (Builtin.append_ #[t,t2] ty #[.slice (some b) mh v8,.int .i64 (n:Int)]).run P w =
   .ok (.slice (some ⟨w.heap.size,0,none⟩) (mh+n) (grownCap w (mh+n) v8 e))
    (w.drew.alloc (.cells (RR.toArray++us.toArray++Builtin.zeroCells z.cells (grownCap w (mh+n) v8 e-(mh+n))) e)):=by
 subst Ex;have hn:¬(mh+n≤v8):=by omega
 have hnz:n≠0:=by omega
 have Ie:¬(n*i.size=0):=fun h=>by rcases aiS.1 h with h|h<;>omega
 have hw:=x7 (m:=n) (by omega);have dI:¬((n:Int)<0):=by omega
 have Tm:¬(281474976710656<(n:Int)*(i.bytes:Int)):=by have OE:((n*i.bytes:Nat):Int)≤((281474976710656:Nat):Int):=aiI.2 WY;rw[agf] at OE;have h7:((281474976710656:Nat):Int)=281474976710656:=rfl;omega
 have UE:¬(9223372036854775807<((mh:Int)+(n:Int))):=by omega
 have UF:¬(281474976710656<Builtin.nextslicecap (mh+n) v8*i.bytes):=by omega
 have YC:=run_firstCells_some (P:=P) w.drew i.size mh b mh v8 RR E8 (by simpa using holds);simp[Builtin.append_,run_underlying ht,run_underlying H3,sizeOf,typeInfo,zeroValue,hi,hz,asInt,asIntOf,hw,dI,Tm,hn,hnz,Ie,UE,UF,Question.forced,YC,newRow,grownCap]
 try (congr 2;apply ais;simp[List.append_assoc])
def CH(T:lh)(n:Nat)(o:Oper)(h:Hint)(s:St):Option (St×List Prop) :=
 match o.op,o.dst,h with
 |.call c,some d,.app wa out=>match c.callee,c.args.toList,c.argTypes.toList with
  |.builtin .append,[x,y],[t1,t2]=>bif Nat.blt d n then
    match T.get t1,T.get t2 with
    |some dt,some du=>match dt.kind,du.kind with
     |.slice el,.int .i64=>match T.get el,dA s.env x,dA s.env y with
      |some de,some (.row r 0 len sz),some (.pv (.int .i64 q))=>match s.aK.get r,(kill r s).aK.get d with
       |some (.pure ps),none=>bif Nat.beq sz de.size&&Nat.ble 1 sz&&Nat.blt r n then
         some (⟨pF (kill r s).env (some d) (.row d 0 wa sz),(d,.pure out)::(kill r s).aK⟩,
          [ps.length=len*sz,len≤wa,q=((wa-len:Nat):Int),ps++(List.replicate (wa-len) (jC .none de)).flatten=out,wa*de.bytes≤140737488355328,wa<9223372036854775808])
        else none
       |_,_=>none
      |_,_,_=>none
     |_,_=>none
    |_,_=>none
   else none
  |_,_,_=>none
 |_,_,_=>none
theorem CI(hT:oE P T)(hs:∀r,bK Γ.sin r→Γ.n≤r)(hr:Rel Γ s a w)(aO:CH T Γ.n o h s=some (s',ob))(cv:dX ob){K:Act→World→Prop}{Q:Exit→Act→World→Prop}
  (hk:∀a' w',Rel Γ s' a' w'→K a' w'):o.wp P a w K Q:=by
 obtain⟨β,I,hr⟩:=hr;unfold CH at aO;split at aO
 ·rename_i c d wa out v7 Ih;split at aO
  ·rename_i x y t1 t2 sF kO Kc;cases sE:(Nat.blt d Γ.n) with
   |false=>simp[sE] at aO
   |true =>
    simp only[sE,cond_true] at aO;have wi:d<Γ.n:=afv sE;split at aO
    ·rename_i dt du WU hdu;split at aO
     ·rename_i el Nc hk2;obtain⟨un,hu,_,hf⟩:=(hT t1 dt WU).under;rw[Nc] at hf;have hf:un = .slice el:=hf;subst hf;obtain⟨Zl,H3,_,YK⟩:=(hT t2 du hdu).under;rw[hk2] at YK;have YK:Zl = .int .i64:=YK;subst YK;split at aO
      ·rename_i de r len sz q pE hx hy;split at aO
       ·rename_i ps o0 wh;cases tS:(Nat.beq sz de.size&&Nat.ble 1 sz&&Nat.blt r Γ.n) with
        |false=>simp[tS] at aO
        |true =>
         simp only[tS,cond_true] at aO;simp only[Bool.and_eq_true] at tS;have mg:sz=de.size:=afB tS.1.1;have WV:1≤sz:=afv tS.1.2;have RO:r<Γ.n:=afv tS.2;injection aO with aO;injection aO with h1 h2
         subst h1;subst h2;obtain⟨g1,cv⟩:=cv.cons;obtain⟨gl,cv⟩:=cv.cons;obtain⟨gq,cv⟩:=cv.cons;obtain⟨g4,cv⟩:=cv.cons;obtain⟨g5,g6⟩:=cv.cons;obtain⟨m,rfl⟩:∃m,wa=len+m:=⟨wa-len,by omega⟩;rw[aiB] at gq g4;have g6:len+m<9223372036854775808:=g6;subst g4;obtain⟨i,hi,E4,Wz,z,hz,_,HW,_⟩:=(hT el de pE).info;obtain⟨z',Rm,_,_,Ri⟩:=(hT el de pE).r6 w;have hzz:z'=z:=by
          have e1:(zeroValue el).run P w = .ok z w:=by simp[zeroValue,typeInfo,hi,hz]
          rw[e1] at Rm;injection Rm with Rm _
          exact Rm.symm
         subst hzz;have hex:=hr.HI x _ hx;have Lz:Rd I w (.int .i64 q) (a.eval y):=hr.HI y _ hy;have zE:a.eval y = .int .i64 (m:Int):=by generalize a.eval y=v at Lz;cases Lz;rw[gq]
         obtain⟨zH,zL⟩:=hex;have Ly:=(hr.aK.1 r _ o0).1;have Uw:¬bK Γ.sin r:=fun h=>by have:=hs r h;omega
         have x4:¬bK Γ.sin d:=fun h=>absurd (hs d h) (ahf wi)
         have x5:¬bK (kill r s).aK d:=by unfold bK;rw[wh];simp
         obtain⟨us,Ex⟩:∃us,us=(Builtin.zeroCells z'.cells m).toList:=⟨_,rfl⟩;have vY:bM I w ((List.replicate m (jC .none de)).flatten) us:=by rw[Ex];unfold Builtin.zeroCells;rw[HW];have:=Cv ((Ri I w).jC .none) m (m*de.size) (by rw[HW]) (by omega);rwa[HW] at this
         have zF:us.length=m*i.size:=by rw[Ex,ahL,size_zeroCells,HW,E4]
         have E6:((List.replicate m (jC .none de)).flatten).length=m*sz:=by rw[vY.1,zF,E4,←mg]
         generalize (List.replicate m (jC .none de)).flatten=qs at *;have Oa:∀v' w',(Builtin.append_ #[t1,t2] o.type #[a.eval x,a.eval y]).run P w = .ok v' w'→Rel Γ ⟨pF (kill r s).env (some d) (.row d 0 (len+m) sz),(d,.pure (ps++qs))::(kill r s).aK⟩ (a.put (some d) v') w'→o.wp P a w K Q:=by intro v' w' aw kT;have nD:=Bv kO;have xW:=Bv Kc;obtain⟨cl,args,OH⟩:=c;simp only at sF nD xW;subst sF;subst nD;subst xW;unfold Oper.wp execOp;simp only[v7,resolve,invoke,builtin,Sem.run_bind,Sem.run_pure,Result.andThen_ok,List.map_toArray,List.map_cons,List.map_nil,aw];show K (a.put o.dst v') w';rw[Ih];exact hk _ _ kT
         have Oc:0<i.size:=by rw[E4,←mg];exact WV
         have WZ:m*i.bytes≤281474976710656:=by
          have:(len+m)*i.bytes≤140737488355328:=by rw[Wz];exact g5
          rw[age] at this;omega
         have CD:(len+m)*i.bytes≤140737488355328:=by rw[Wz];exact g5
         have zM:len+m≤maxLen:=by unfold maxLen;omega
         have WX:∀b,β r=some b→∀x,bK (dG r s.aK) x→β x≠some b:=fun b hb x hx e =>(fk.1 hx).2 (hr.aK.2 x r b (fk.1 hx).1 zH e hb)
         rcases zL with ⟨Ti,H8,Em⟩|⟨b,cap,oQ,Em,RG,elx,nx,E3,qE⟩
         ·
          subst H8;have ON:ps=[]:=afr (by simpa using g1);subst ON;rcases(Or.inr trivial:False∨True) with hF|_
          ·exact hF.elim
          ·skip
           rcases aid m with JR|JR
           ·subst JR;have o5:qs=[]:=afr (by simpa using E6);subst o5;refine Oa _ _ (by rw[Em,zE];exact se hu H3 (hT el de pE) _ none 0 0 (afy _)) ?_;exact my hr (ob:=none) wi x4 x5 (fun b hb=>by cases hb) (.inl ⟨by simp,rfl⟩) (.inl ⟨rfl,rfl,rfl⟩)
           ·have aw:=Bw (P:=P) (w:=w) t1 t2 o.type el i z' hu H3 hi hz m us Ex JR Oc (by omega) (by simp only[Nat.zero_add] at CD;omega);refine Oa _ _ (by rw[Em,zE];exact aw) ?_;have CE:dz Γ s a (w.drew.alloc (.cells (us.toArray++Builtin.zeroCells z'.cells (grownCap w m 0 el-m)) el)) β I :=
             hr.grow (((Eu.refl _ _).drew).alloc (afy _) _) (fun b h=>h) (fun b h => .inl h)
            have r7:(w.drew.alloc (.cells (us.toArray++Builtin.zeroCells z'.cells (grownCap w m 0 el-m)) el)).heap[w.heap.size]? = some (.cells (us.toArray++Builtin.zeroCells z'.cells (grownCap w m 0 el-m)) el (0,0)):=heap_alloc_new w.drew _;have EC:=grownCap_ge w m 0 el;have pH:∀(j:Nat) p,(([]:List PV)++qs)[j]? = some p→∃u,(us.toArray++Builtin.zeroCells z'.cells (grownCap w m 0 el-m))[j]? = some u∧u.oneCell'=true∧Rd I (w.drew.alloc (.cells (us.toArray++Builtin.zeroCells z'.cells (grownCap w m 0 el-m)) el)) p u:=by
             intro j p hp;simp only[List.nil_append] at hp;have hj:j<us.length:=by rw[←vY.1];exact(afs.1 hp).1
             obtain⟨q1,q2⟩:=vY.2 j p us[j] hp (afp hj);refine⟨us[j],by rw[ain (by simpa using hj)];simp[hj],q2.kA q1,q2.mono (fun _ h=>h) (fun b o hI=>iH (Below.heap_alloc w.drew _ b (hr.ib b hI)) o)⟩
            refine my CE (ob:=some w.heap.size) wi x4 x5 (fun b hb => ?_) (uh r7 pH (by simp)) (.inr ⟨w.heap.size,grownCap w m 0 el,rfl,by simp,by simpa using EC,el,_,by unfold World.shape?;rw[r7],?_⟩)
            ·injection hb with hb;subst hb
             exact⟨by simp,fun hI=>ai5 _ (hr.ib _ hI),(.inl hr.aG.size),fun x hx e=>ai5 _ (hr.lb x _ (fk.1 hx).1 e)⟩
            ·simp only[Array.size_append,List.size_toArray,zF,size_zeroCells,HW,E4,mg];rw[←age];have:m+(grownCap w m 0 el-m)=grownCap w m 0 el:=by omega
             rw[this];omega
         ·
          have Rl:Γ.Nw b:=hr.new r b zH (.inl Uw) oQ;have Nb:=((hr.aK.1 r _ o0).2 b oQ);obtain⟨arr,CC,hg,HG,Br⟩:=wV Ly oQ;have Ux:w.shape? b=some (CC,arr.size):=by unfold World.shape?;rw[hg]
          have Ge:nx=arr.size:=by rw[Ux] at E3;injection E3 with E3;injection E3 with h1 h2;exact h2.symm
          subst Ge;rcases aid m with JR|JR
          ·skip
           subst JR;have o5:qs=[]:=afr (by simpa using E6);subst o5;refine Oa _ _ (by rw[Em,zE];exact se hu H3 (hT el de pE) _ _ len cap RG) ?_;exact my hr (ob:=some b) wi x4 x5 (fun b' fG=>by injection fG with fG;subst fG;exact⟨Nb.1,Nb.2,Rl,WX b oQ⟩)
            (uh hg (fun j p hp=>Br j p (by simpa using hp)) (by simp)) (.inr ⟨b,cap,rfl,rfl,RG,CC,_,Ux,qE⟩)
          ·skip
           have Uy:∀u∈us,u.oneCell'=true:=fun u J1=>by
            obtain⟨j,hj⟩:=ahn.1 J1;have Rk:j<qs.length:=by rw[vY.1];exact(afs.1 hj).1
            obtain⟨q1,q2⟩:=vY.2 j _ u (afp Rk) hj;exact q2.kA q1
           have Uz:len*i.size=ps.length:=by rw[E4,←mg];exact g1.symm
           have Zr:cap*sz≤arr.size:=by omega
           by_cases ui:len+m≤cap
           ·have OO:len*i.size+us.length≤arr.size:=by
             have h3:(len+m)*sz≤cap*sz:=afw _ ui;rw[age] at h3;rw[zF,E4,←mg];omega
            have aw:=zN (P:=P) (w:=w) hu H3 hi hz o.type b len cap arr hg m us Ex zF Uy JR Oc ui OO (by omega) WZ;refine Oa _ _ (by rw[Em,zE];exact aw) ?_;have OP:(arr.toList.take (len*i.size)++us++arr.toList.drop (len*i.size+us.length)).toArray.size=arr.size:=by simp;omega
            have mr:∀j,(arr.toList.take (len*i.size)++us++arr.toList.drop (len*i.size+us.length)).toArray[j]? = if len*i.size≤j∧j<len*i.size+us.length then us[j-len*i.size]? else arr[j]? := by intro j;have:=kd arr.toList (len*i.size) us (by simp;omega) j;unfold fg at this;rw[←ah9] at this;simp only[List.getElem?_toArray];rw[this];simp only[Array.getElem?_toList]
            have Ik:∀(j:Nat) p,(ps++qs)[j]? = some p→∃u,(arr.toList.take (len*i.size)++us++arr.toList.drop (len*i.size+us.length)).toArray[j]? = some u∧u.oneCell'=true∧Rd I w p u:=by
             intro j p hp;rw[mr j];rw[agE] at hp;by_cases hj:j<ps.length
             ·rw[afI hj] at hp;rw[afG (by omega)];exact Br j p hp
             ·rw[afG hj] at hp;have UA:=(afs.1 hp).1;have OQ:j-ps.length<us.length:=by rw[←vY.1];exact UA
              rw[afI (by omega),Uz];obtain⟨q1,q2⟩:=vY.2 _ p us[j-ps.length] hp (afp OQ);exact⟨_,afp OQ,q2.kA q1,q2⟩
            have Zs:=hr.write (sc' := .pure (ps++qs)) (aga RO Γ.small) o0 oQ hg OP (fun j e' iu=>by
             simp only[SC.sG,List.getElem?_map] at iu;cases hp:(ps++qs)[j]? with
             |none=>simp[hp] at iu
             |some p =>simp[hp] at iu;subst iu;exact Ik j p hp)
            have Ki:dG r (aT.set s.aK r (.pure (ps++qs)))=dG r s.aK:=AJ r _ s.aK;have UB:kill r ⟨s.env,aT.set s.aK r (.pure (ps++qs))⟩=kill r s:=by unfold kill;simp only[Ki]
            have OR:=my Zs (r:=r) (d:=d) (len:=len+m) (sz:=sz) (out:=ps++qs) (v := .slice (some ⟨b,0,none⟩) (len+m) cap) (ob:=some b) wi x4 (by rw[Ki];exact x5)
             (fun b' fG=>by
              injection fG with fG;subst fG
              rw[Ki];exact⟨by simpa[World.setRow] using Nb.1,Nb.2,Rl,WX b oQ⟩)
             (uh (setRow_heap w b arr _ CC (0,0) hg) (fun j p hp=>by obtain⟨u,q1,q2,q3⟩:=Ik j p hp;exact⟨u,q1,q2,q3.mono (fun _ h=>h) (fun b' o' hI=>iH (setRow_other w b b' _ (fun e=>Nb.2 (e ▸ hI))) o')⟩) (by simp))
             (.inr ⟨b,cap,rfl,rfl,ui,CC,arr.size,by rw[sQ w b b _ arr CC (0,0) hg OP];exact Ux,qE⟩)
            rw[UB] at OR;exact OR
           ·have OS:(arr.toList.take ps.length).length=len*i.size:=by simp;omega
            have holds:∀(j:Nat) v,(arr.toList.take ps.length)[j]? = some v→w.cell? ((⟨b,0,none⟩:Addr).add j)=some v:=by
             intro j v hv;rw[gU,agl,cell_of_row w b j arr CC (0,0) hg];rw[agh] at hv;split at hv
             ·simpa using hv
             ·cases hv
            have aw:=zO (P:=P) (w:=w) t1 t2 o.type el i z' hu H3 hi hz ⟨b,0,none⟩ len cap (arr.toList.take ps.length) OS holds m us Ex JR Oc (by omega) (by omega) WZ (growslice_fits (by omega) CD);refine Oa _ _ (by rw[Em,zE];exact aw) ?_;generalize hW:((arr.toList.take ps.length).toArray++us.toArray++Builtin.zeroCells z'.cells (grownCap w (len+m) cap el-(len+m)):Array Value)=narr;have CE:dz Γ s a (w.drew.alloc (.cells narr el)) β I :=
             hr.grow (((Eu.refl _ _).drew).alloc (afy _) _) (fun b h=>h) (fun b h => .inl h)
            have r7:(w.drew.alloc (.cells narr el)).heap[w.heap.size]? = some (.cells narr el (0,0)):=heap_alloc_new w.drew _;have EC:=grownCap_ge w (len+m) cap el;have Il:∀{p:PV} {u:Value},Rd I w p u→Rd I (w.drew.alloc (.cells narr el)) p u:=fun h=>h.mono (fun _ h=>h) (fun b o hI=>iH (Below.heap_alloc w.drew _ b (hr.ib b hI)) o)
            have pH:∀(j:Nat) p,(ps++qs)[j]? = some p→∃u,narr[j]? = some u∧u.oneCell'=true∧Rd I (w.drew.alloc (.cells narr el)) p u:=by
             intro j p hp;have HF:(arr.toList.take ps.length).length=ps.length:=by simp;omega
             have OT:narr[j]? = if j<ps.length then arr[j]? else if j<ps.length+us.length then us[j-ps.length]? else (Builtin.zeroCells z'.cells (grownCap w (len+m) cap el-(len+m)))[j-(ps.length+us.length)]? := by
              rw[←hW,ahS,ahS];simp only[Array.size_append,List.size_toArray,HF,List.getElem?_toArray];by_cases hj:j<ps.length
              ·rw[afI (by omega),afI hj,afI hj,agh,afI hj];simp
              ·by_cases Gi:j<ps.length+us.length
               ·rw[afI Gi,afG hj,afG hj,afI Gi]
               ·rw[afG Gi,afG hj,afG Gi]
             rw[OT];rw[agE] at hp;by_cases hj:j<ps.length
             ·rw[afI hj] at hp ⊢;obtain⟨u,q1,q2,q3⟩:=Br j p hp;exact⟨u,q1,q2,Il q3⟩
             ·rw[afG hj] at hp ⊢;have UA:=(afs.1 hp).1;have OQ:j-ps.length<us.length:=by rw[←vY.1];exact UA
              rw[afI (by omega)];obtain⟨q1,q2⟩:=vY.2 _ p us[j-ps.length] hp (afp OQ);exact⟨_,afp OQ,q2.kA q1,Il q2⟩
            refine my CE (ob:=some w.heap.size) wi x4 x5 (fun b' fG => ?_) (uh r7 pH (by simp)) (.inr ⟨w.heap.size,grownCap w (len+m) cap el,rfl,rfl,EC,el,_,by unfold World.shape?;rw[r7],?_⟩)
            ·injection fG with fG;subst fG
             exact⟨by simp,fun hI=>ai5 _ (hr.ib _ hI),(.inl hr.aG.size),fun x hx e=>ai5 _ (hr.lb x _ (fk.1 hx).1 e)⟩
            ·rw[←hW];simp only[Array.size_append,List.size_toArray,OS,zF,size_zeroCells,HW,E4,mg];rw[←age,←age];have:len+m+(grownCap w (len+m) cap el-(len+m))=grownCap w (len+m) cap el:=by omega
             rw[this];omega
       ·cases aO
      ·cases aO
     ·cases aO
    ·cases aO
  ·cases aO
 ·cases aO
def x8(T:lh)(n:Nat)(o:Oper)(h:Hint)(s:St):Option (St×List Prop) :=
 match LB T n o h s with
 |some x=>some x
 |none=>CH T n o h s
theorem uk(hT:oE P T)(hs:∀r,bK Γ.sin r→Γ.n≤r)(hr:Rel Γ s a w)(aO:x8 T Γ.n o h s=some (s',ob))(cv:dX ob){K:Act→World→Prop}{Q:Exit→Act→World→Prop}
  (hk:∀a' w',Rel Γ s' a' w'→K a' w'):o.wp P a w K Q:=by
 unfold x8 at aO;split at aO
 ·rename_i x hx;injection aO with aO
  subst aO;exact ED hT hs hr hx cv hk
 ·exact CI hT hs hr aO cv hk
end
end Go.Proofs.YtcpnocgollpbhaaGreatDoor.Sym
