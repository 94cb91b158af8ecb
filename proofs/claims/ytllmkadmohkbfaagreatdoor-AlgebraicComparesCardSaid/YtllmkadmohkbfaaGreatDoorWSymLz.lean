/- Lemmas for the statements of this seat. -/
import Derived.Test.YtllmkadmohkbfaaGreatDoorWSymL
namespace Go.Proofs.YtllmkadmohkbfaaGreatDoor.Sym
open Go Go.RowKit
set_option linter.unusedVariables false
set_option linter.unusedSimpArgs false
section
variable {P:Program} {T:qU} {Γ:Ctx} {s s':St} {a:Act} {w:World} {β:Nat→Option Nat} {I:Nat→Prop} {o:Oper} {h:Hint} {ob:List Prop}
theorem CO{m:Nat}(h:m<9223372036854775808):IntKind.i64.wrap (m:Int)=m:=by
 have:=IntKind.wrap_i64 (m:Int)
 omega
theorem xE{t t2 e:TypeId}{de:TD}(hu:P.underlying t=some (.slice e))(Ic:P.underlying t2=some (.int .i64))(hd:xy P e de)(ty:TypeId)(ao:Option Addr)(len cap:Nat)(hc:len≤cap) :
  (Builtin.append_ #[t,t2] ty #[.slice ao len cap,.int .i64 ((0:Nat):Int)]).run P w = .ok (.slice ao len cap) w:=by
 obtain⟨i,hi,_,_,YF⟩:=hd.run_typeInfo w
 have hw:IntKind.i64.wrap (0:Int)=0:=CO (m:=0) (by omega)
 cases ao<;>simp[Builtin.append_,run_underlying hu,run_underlying Ic,hd.run_sizeOf w,hi,YF,asInt,asIntOf,hw,hc,storeCells]
theorem Ft(t t2 ty e:TypeId)(i:TypeInfo)(z:Value)(ht:P.underlying t=some (.slice e))(Ic:P.underlying t2=some (.int .i64))(hi:P.info? e=some i)(hz:i.zero=some z)
  (n:Nat) (us:List Value) (Jw:us=(Builtin.zeroCells z.cells n).toList)
  (h0:0<n) (MD:0<i.size) (YU:(n:Int)≤9223372036854775807) (WR:n*i.bytes≤281474976710656) :
  (Builtin.append_ #[t,t2] ty #[.slice none 0 0,.int .i64 (n:Int)]).run P w =
   .ok (.slice (some ⟨w.heap.size,0,none⟩) n (grownCap w n 0 e)) (w.drew.alloc (.cells (us.toArray++Builtin.zeroCells z.cells (grownCap w n 0 e-n)) e)):=by
 subst Jw
 have hn:n≠0:=by omega
 have KO:¬(n*i.size=0):=fun h=>by rcases Nat.mul_eq_zero.1 h with h|h<;>omega
 have hw:=CO (m:=n) (by omega)
 have bH:¬((n:Int)<0):=by omega
 have TR:¬(281474976710656<(n:Int)*(i.bytes:Int)):=by
  have Qa:((n*i.bytes:Nat):Int)≤((281474976710656:Nat):Int):=Int.ofNat_le.2 WR
  rw[Int.natCast_mul] at Qa
  have h7:((281474976710656:Nat):Int)=281474976710656:=rfl
  omega
 have UK:¬(9223372036854775807<(n:Int)):=by omega
 have UL:¬(281474976710656<Builtin.nextslicecap n 0*i.bytes):=by rw[nextslicecap_zero h0];omega
 simp[Builtin.append_,run_underlying ht,run_underlying Ic,sizeOf,typeInfo,zeroValue,hi,hz,asInt,asIntOf,hw,bH,TR,hn,KO,UK,UL,Question.forced,run_firstCells_none,newRow,grownCap]
theorem D3{t t2 e Gq:TypeId}{i:TypeInfo}{z:Value}(ht:P.underlying t=some (.slice e))(Ic:P.underlying t2=some (.int .i64))(hi:P.info? e=some i)(hz:i.zero=some z)(ty:TypeId)
  (g rE Be:Nat) (cur:Array Value) (hg:w.heap[g]? = some (.cells cur Gq (0,0)))
  (m:Nat) (us:List Value) (Jw:us=(Builtin.zeroCells z.cells m).toList) (hl:us.length=m*i.size) (h1:∀u∈us,u.oneCell'=true) (h0:0<m) (MD:0<i.size)
  (zS:rE+m≤Be) (yn:rE*i.size+us.length≤cur.size) (YU:m<9223372036854775808) (WR:m*i.bytes≤281474976710656) :
  (Builtin.append_ #[t,t2] ty #[.slice (some ⟨g,0,none⟩) rE Be,.int .i64 (m:Int)]).run P w =
   .ok (.slice (some ⟨g,0,none⟩) (rE+m) Be) (w.setRow g (cur.toList.take (rE*i.size)++us++cur.toList.drop (rE*i.size+us.length)).toArray):=by
 have bz:=run_storeCells_at P g (rE*i.size) Gq us 0 cur w hg (by simpa using yn) h1
 simp only[Nat.add_zero] at bz
 have hn:m≠0:=by omega
 have KO:¬(m*i.size=0):=fun h=>by rcases Nat.mul_eq_zero.1 h with h|h<;>omega
 have hw:=CO YU
 have bH:¬((m:Int)<0):=by omega
 have TR:¬(281474976710656<(m:Int)*(i.bytes:Int)):=by
  have Qa:((m*i.bytes:Nat):Int)≤((281474976710656:Nat):Int):=Int.ofNat_le.2 WR
  rw[Int.natCast_mul] at Qa
  have h7:((281474976710656:Nat):Int)=281474976710656:=rfl
  omega
 subst Jw
 simp[Builtin.append_,run_underlying ht,run_underlying Ic,sizeOf,typeInfo,zeroValue,hi,hz,asInt,asIntOf,hw,bH,TR,hn,KO,zS,Addr.add_lit] at bz ⊢
 rw[bz];rfl
theorem D4(t t2 ty e:TypeId)(i:TypeInfo)(z:Value)(ht:P.underlying t=some (.slice e))(Ic:P.underlying t2=some (.int .i64))(hi:P.info? e=some i)(hz:i.zero=some z)
  (b:Addr) (rE Be:Nat) (SH:List Value) (DK:SH.length=rE*i.size) (holds:∀j v,SH[j]? = some v→w.cell? (b.add j)=some v)
  (n:Nat) (us:List Value) (Jw:us=(Builtin.zeroCells z.cells n).toList) (h0:0<n) (MD:0<i.size)
  (hg:Be<rE+n) (YU:((rE+n:Nat):Int)≤9223372036854775807) (WR:n*i.bytes≤281474976710656) (yn:Builtin.nextslicecap (rE+n) Be*i.bytes≤281474976710656) :
  (Builtin.append_ #[t,t2] ty #[.slice (some b) rE Be,.int .i64 (n:Int)]).run P w =
   .ok (.slice (some ⟨w.heap.size,0,none⟩) (rE+n) (grownCap w (rE+n) Be e))
    (w.drew.alloc (.cells (SH.toArray++us.toArray++Builtin.zeroCells z.cells (grownCap w (rE+n) Be e-(rE+n))) e)):=by
 subst Jw
 have hn:¬(rE+n≤Be):=by omega
 have YV:n≠0:=by omega
 have KO:¬(n*i.size=0):=fun h=>by rcases Nat.mul_eq_zero.1 h with h|h<;>omega
 have hw:=CO (m:=n) (by omega)
 have bH:¬((n:Int)<0):=by omega
 have TR:¬(281474976710656<(n:Int)*(i.bytes:Int)):=by
  have Qa:((n*i.bytes:Nat):Int)≤((281474976710656:Nat):Int):=Int.ofNat_le.2 WR
  rw[Int.natCast_mul] at Qa
  have h7:((281474976710656:Nat):Int)=281474976710656:=rfl
  omega
 have UK:¬(9223372036854775807<((rE:Int)+(n:Int))):=by omega
 have UL:¬(281474976710656<Builtin.nextslicecap (rE+n) Be*i.bytes):=by omega
 have hfo:=run_firstCells_some (P:=P) w.drew i.size rE b rE Be SH DK (by simpa using holds)
 simp[Builtin.append_,run_underlying ht,run_underlying Ic,sizeOf,typeInfo,zeroValue,hi,hz,asInt,asIntOf,hw,bH,TR,hn,YV,KO,UK,UL,Question.forced,hfo,newRow,grownCap]
 try (congr 2;apply Array.ext';simp[List.append_assoc])
def Gv(T:qU)(n:Nat)(o:Oper)(h:Hint)(s:St):Option (St×List Prop) :=
 match o.op,o.dst,h with
 |.call c,some d,.app Bf out=>match c.callee,c.args.toList,c.argTypes.toList with
  |.builtin .append,[x,y],[t1,t2]=>bif Nat.blt d n then
    match T.get t1,T.get t2 with
    |some dt,some du=>match dt.kind,du.kind with
     |.slice el,.int .i64=>match T.get el,iq s.env x,iq s.env y with
      |some de,some (.row r 0 len sz),some (.pv (.int .i64 q))=>match s.bp.get r,(kill r s).bp.get d with
       |some (.pure ps),none=>bif Nat.beq sz de.size&&Nat.ble 1 sz&&Nat.blt r n then
         some (⟨u6 (kill r s).env (some d) (.row d 0 Bf sz),(d,.pure out)::(kill r s).bp⟩,
          [ps.length=len*sz,len≤Bf,q=((Bf-len:Nat):Int),ps++(List.replicate (Bf-len) (qk .none de)).flatten=out,Bf*de.bytes≤140737488355328,Bf<9223372036854775808])
        else none
       |_,_=>none
      |_,_,_=>none
     |_,_=>none
    |_,_=>none
   else none
  |_,_,_=>none
 |_,_,_=>none
theorem Gw(hT:uj P T)(hs:∀r,ee Γ.sin r→Γ.n≤r)(hr:Rel Γ s a w)(bz:Gv T Γ.n o h s=some (s',ob))(fK:je ob){K:Act→World→Prop}{Q:Exit→Act→World→Prop}
  (hk:∀a' w',Rel Γ s' a' w'→K a' w'):o.wp P a w K Q:=by
 obtain⟨β,I,hr⟩:=hr
 unfold Gv at bz
 split at bz
 ·rename_i c d Bf out Bc KQ
  split at bz
  ·rename_i x y t1 t2 zv oc Mv
   cases mO:(Nat.blt d Γ.n) with
   |false=>simp[mO] at bz
   |true =>
    simp only[mO,cond_true] at bz
    have Bn:d<Γ.n:=Nat.le_of_ble_eq_true mO
    split at bz
    ·rename_i dt du UA SI
     split at bz
     ·rename_i el JB YW
      obtain⟨un,hu,_,hf⟩:=(hT t1 dt UA).under
      rw[JB] at hf
      have hf:un = .slice el:=hf
      subst hf
      obtain⟨YJ,Ic,_,X9⟩:=(hT t2 du SI).under
      rw[YW] at X9
      have X9:YJ = .int .i64:=X9
      subst X9
      split at bz
      ·rename_i de r len sz q u5 hx hy
       split at bz
       ·rename_i ps uR Bm
        cases ye:(Nat.beq sz de.size&&Nat.ble 1 sz&&Nat.blt r Γ.n) with
        |false=>simp[ye] at bz
        |true =>
         simp only[ye,cond_true] at bz
         simp only[Bool.and_eq_true] at ye
         have rD:sz=de.size:=Nat.eq_of_beq_eq_true ye.1.1
         have WL:1≤sz:=Nat.le_of_ble_eq_true ye.1.2
         have SE:r<Γ.n:=Nat.le_of_ble_eq_true ye.2
         injection bz with bz;injection bz with h1 h2
         subst h1;subst h2
         obtain⟨g1,fK⟩:=fK.cons
         obtain⟨gl,fK⟩:=fK.cons
         obtain⟨gq,fK⟩:=fK.cons
         obtain⟨g4,fK⟩:=fK.cons
         obtain⟨g5,g6⟩:=fK.cons
         obtain⟨m,rfl⟩:∃m,Bf=len+m:=⟨Bf-len,by omega⟩
         rw[Nat.add_sub_cancel_left] at gq g4
         have g6:len+m<9223372036854775808:=g6
         subst g4
         obtain⟨i,hi,ql,Kt,z,hz,_,Mm,_⟩:=(hT el de u5).info
         obtain⟨z',Sb,_,_,WE⟩:=(hT el de u5).zL w
         have hzz:z'=z:=by
          have e1:(zeroValue el).run P w = .ok z w:=by simp[zeroValue,typeInfo,hi,hz]
          rw[e1] at Sb
          injection Sb with Sb _
          exact Sb.symm
         subst hzz
         have hex:=hr.Ih x _ hx
         have NW:Rd I w (.int .i64 q) (a.eval y):=hr.Ih y _ hy
         have DT:a.eval y = .int .i64 (m:Int):=by generalize a.eval y=v at NW;cases NW;rw[gq]
         obtain⟨DW,D1⟩:=hex
         have NV:=(hr.bp.1 r _ uR).1
         have UB:¬ee Γ.sin r:=fun h=>by have:=hs r h;omega
         have CL:¬ee Γ.sin d:=fun h=>absurd (hs d h) (Nat.not_le_of_lt Bn)
         have CM:¬ee (kill r s).bp d:=by unfold ee;rw[Bm];simp
         obtain⟨us,Jw⟩:∃us,us=(Builtin.zeroCells z'.cells m).toList:=⟨_,rfl⟩
         have A9:eh I w ((List.replicate m (qk .none de)).flatten) us:=by
          rw[Jw]
          unfold Builtin.zeroCells
          rw[Mm]
          have:=Gh ((WE I w).qk .none) m (m*de.size) (by rw[Mm]) (by omega)
          rwa[Mm] at this
         have DU:us.length=m*i.size:=by rw[Jw,Array.length_toList,size_zeroCells,Mm,ql]
         have D2:((List.replicate m (qk .none de)).flatten).length=m*sz:=by rw[A9.1,DU,ql,←rD]
         generalize (List.replicate m (qk .none de)).flatten=qs at *
         have PN:∀v' w',(Builtin.append_ #[t1,t2] o.type #[a.eval x,a.eval y]).run P w = .ok v' w'→Rel Γ ⟨u6 (kill r s).env (some d) (.row d 0 (len+m) sz),(d,.pure (ps++qs))::(kill r s).bp⟩ (a.put (some d) v') w'→o.wp P a w K Q:=by
          intro v' w' aH qp
          have sS:=Fq oc
          have CG:=Fq Mv
          obtain⟨cl,args,Qe⟩:=c
          simp only at zv sS CG
          subst zv;subst sS;subst CG
          unfold Oper.wp execOp
          simp only[Bc,resolve,invoke,builtin,Sem.run_bind,Sem.run_pure,Result.andThen_ok,List.map_toArray,List.map_cons,List.map_nil,aH]
          show K (a.put o.dst v') w'
          rw[KQ]
          exact hk _ _ qp
         have MD:0<i.size:=by rw[ql,←rD];exact WL
         have WS:m*i.bytes≤281474976710656:=by
          have:(len+m)*i.bytes≤140737488355328:=by rw[Kt];exact g5
          rw[Nat.add_mul] at this
          omega
         have Gr:(len+m)*i.bytes≤140737488355328:=by rw[Kt];exact g5
         have O6:len+m≤maxLen:=by unfold maxLen;omega
         have WQ:∀b,β r=some b→∀x,ee (iB r s.bp) x→β x≠some b:=fun b hb x hx e =>
          (kd.1 hx).2 (hr.bp.2 x r b (kd.1 hx).1 DW e hb)
         rcases D1 with ⟨TN,KJ,H7⟩|⟨b,cap,uI,H7,Su,elx,nx,IP,yn⟩
         ·
          subst KJ
          have Qj:ps=[]:=List.eq_nil_of_length_eq_zero (by simpa using g1)
          subst Qj
          rcases(Or.inr trivial:False∨True) with hF|_
          ·exact hF.elim
          ·skip
           rcases Nat.eq_zero_or_pos m with Mb|Mb
           ·subst Mb
            have sL:qs=[]:=List.eq_nil_of_length_eq_zero (by simpa using D2)
            subst sL
            refine PN _ _ (by rw[H7,DT];exact xE hu Ic (hT el de u5) _ none 0 0 (Nat.le_refl _)) ?_
            exact rM hr (ob:=none) Bn CL CM (fun b hb=>by cases hb) (.inl ⟨by simp,rfl⟩) (.inl ⟨rfl,rfl,rfl⟩)
           ·have aH:=Ft (P:=P) (w:=w) t1 t2 o.type el i z' hu Ic hi hz m us Jw Mb MD (by omega) (by simp only[Nat.zero_add] at Gr;omega)
            refine PN _ _ (by rw[H7,DT];exact aH) ?_
            have Gs:iA Γ s a (w.drew.alloc (.cells (us.toArray++Builtin.zeroCells z'.cells (grownCap w m 0 el-m)) el)) β I :=
             hr.grow (((Ib.refl _ _).drew).alloc (Nat.le_refl _) _) (fun b h=>h) (fun b h => .inl h)
            have xA:(w.drew.alloc (.cells (us.toArray++Builtin.zeroCells z'.cells (grownCap w m 0 el-m)) el)).heap[w.heap.size]? = some (.cells (us.toArray++Builtin.zeroCells z'.cells (grownCap w m 0 el-m)) el (0,0)):=heap_alloc_new w.drew _
            have Ik:=grownCap_ge w m 0 el
            have u9:∀(j:Nat) p,(([]:List PV)++qs)[j]? = some p→∃u,(us.toArray++Builtin.zeroCells z'.cells (grownCap w m 0 el-m))[j]? = some u∧u.oneCell'=true∧Rd I (w.drew.alloc (.cells (us.toArray++Builtin.zeroCells z'.cells (grownCap w m 0 el-m)) el)) p u:=by
             intro j p hp
             simp only[List.nil_append] at hp
             have hj:j<us.length:=by rw[←A9.1];exact(List.getElem?_eq_some_iff.1 hp).1
             obtain⟨q1,q2⟩:=A9.2 j p us[j] hp (List.getElem?_eq_getElem hj)
             refine⟨us[j],by rw[Array.getElem?_append_left (by simpa using hj)];simp[hj],q2.rI q1,q2.mono (fun _ h=>h) (fun b o hI=>mN (Below.heap_alloc w.drew _ b (hr.ib b hI)) o)⟩
            refine rM Gs (ob:=some w.heap.size) Bn CL CM (fun b hb => ?_) (zR xA u9 (by simp)) (.inr ⟨w.heap.size,grownCap w m 0 el,rfl,by simp,by simpa using Ik,el,_,by unfold World.shape?;rw[xA],?_⟩)
            ·injection hb with hb;subst hb
             exact⟨by simp,fun hI=>Nat.lt_irrefl _ (hr.ib _ hI),(.inl hr.aP.size),fun x hx e=>Nat.lt_irrefl _ (hr.lb x _ (kd.1 hx).1 e)⟩
            ·simp only[Array.size_append,List.size_toArray,DU,size_zeroCells,Mm,ql,rD]
             rw[←Nat.add_mul]
             have:m+(grownCap w m 0 el-m)=grownCap w m 0 el:=by omega
             rw[this];omega
         ·
          have yf:Γ.Nw b:=hr.new r b DW (.inl UB) uI
          have O5:=((hr.bp.1 r _ uR).2 b uI)
          obtain⟨arr,Gq,hg,Gd,Gg⟩:=BD NV uI
          have UC:w.shape? b=some (Gq,arr.size):=by unfold World.shape?;rw[hg]
          have Jy:nx=arr.size:=by
           rw[UC] at IP;injection IP with IP;injection IP with h1 h2;exact h2.symm
          subst Jy
          rcases Nat.eq_zero_or_pos m with Mb|Mb
          ·skip
           subst Mb
           have sL:qs=[]:=List.eq_nil_of_length_eq_zero (by simpa using D2)
           subst sL
           refine PN _ _ (by rw[H7,DT];exact xE hu Ic (hT el de u5) _ _ len cap Su) ?_
           exact rM hr (ob:=some b) Bn CL CM (fun b' kI=>by injection kI with kI;subst kI;exact⟨O5.1,O5.2,yf,WQ b uI⟩)
            (zR hg (fun j p hp=>Gg j p (by simpa using hp)) (by simp)) (.inr ⟨b,cap,rfl,rfl,Su,Gq,_,UC,yn⟩)
          ·skip
           have UD:∀u∈us,u.oneCell'=true:=fun u Qd=>by
            obtain⟨j,hj⟩:=List.mem_iff_getElem?.1 Qd
            have Sa:j<qs.length:=by rw[A9.1];exact(List.getElem?_eq_some_iff.1 hj).1
            obtain⟨q1,q2⟩:=A9.2 j _ u (List.getElem?_eq_getElem Sa) hj
            exact q2.rI q1
           have UE:len*i.size=ps.length:=by rw[ql,←rD];exact g1.symm
           have YQ:cap*sz≤arr.size:=by omega
           by_cases zS:len+m≤cap
           ·have Qk:len*i.size+us.length≤arr.size:=by
             have h3:(len+m)*sz≤cap*sz:=Nat.mul_le_mul_right _ zS
             rw[Nat.add_mul] at h3
             rw[DU,ql,←rD];omega
            have aH:=D3 (P:=P) (w:=w) hu Ic hi hz o.type b len cap arr hg m us Jw DU UD Mb MD zS Qk (by omega) WS
            refine PN _ _ (by rw[H7,DT];exact aH) ?_
            have Ql:(arr.toList.take (len*i.size)++us++arr.toList.drop (len*i.size+us.length)).toArray.size=arr.size:=by
             simp;omega
            have Bb:∀j,(arr.toList.take (len*i.size)++us++arr.toList.drop (len*i.size+us.length)).toArray[j]? = if len*i.size≤j∧j<len*i.size+us.length then us[j-len*i.size]? else arr[j]? := by
             intro j
             have:=qY arr.toList (len*i.size) us (by simp;omega) j
             unfold j7 at this
             rw[←List.append_assoc] at this
             simp only[List.getElem?_toArray]
             rw[this]
             simp only[Array.getElem?_toList]
            have KT:∀(j:Nat) p,(ps++qs)[j]? = some p→∃u,(arr.toList.take (len*i.size)++us++arr.toList.drop (len*i.size+us.length)).toArray[j]? = some u∧u.oneCell'=true∧Rd I w p u:=by
             intro j p hp
             rw[Bb j]
             rw[List.getElem?_append] at hp
             by_cases hj:j<ps.length
             ·rw[if_pos hj] at hp
              rw[if_neg (by omega)]
              exact Gg j p hp
             ·rw[if_neg hj] at hp
              have UF:=(List.getElem?_eq_some_iff.1 hp).1
              have Qm:j-ps.length<us.length:=by rw[←A9.1];exact UF
              rw[if_pos (by omega),UE]
              obtain⟨q1,q2⟩:=A9.2 _ p us[j-ps.length] hp (List.getElem?_eq_getElem Qm)
              exact⟨_,List.getElem?_eq_getElem Qm,q2.rI q1,q2⟩
            have YR:=hr.write (sc' := .pure (ps++qs)) (Nat.lt_of_lt_of_le SE Γ.small) uR uI hg Ql (fun j e' mJ=>by
             simp only[SC.zw,List.getElem?_map] at mJ
             cases hp:(ps++qs)[j]? with
             |none=>simp[hp] at mJ
             |some p =>
              simp[hp] at mJ
              subst mJ
              exact KT j p hp)
            have MA:iB r (cq.set s.bp r (.pure (ps++qs)))=iB r s.bp:=EJ r _ s.bp
            have UG:kill r ⟨s.env,cq.set s.bp r (.pure (ps++qs))⟩=kill r s:=by unfold kill;simp only[MA]
            have Qn:=rM YR (r:=r) (d:=d) (len:=len+m) (sz:=sz) (out:=ps++qs) (v := .slice (some ⟨b,0,none⟩) (len+m) cap) (ob:=some b) Bn CL (by rw[MA];exact CM)
             (fun b' kI=>by
              injection kI with kI;subst kI
              rw[MA]
              exact⟨by simpa[World.setRow] using O5.1,O5.2,yf,WQ b uI⟩)
             (zR (setRow_heap w b arr _ Gq (0,0) hg) (fun j p hp=>by
              obtain⟨u,q1,q2,q3⟩:=KT j p hp
              exact⟨u,q1,q2,q3.mono (fun _ h=>h) (fun b' o' hI=>mN (setRow_other w b b' _ (fun e=>O5.2 (e ▸ hI))) o')⟩) (by simp))
             (.inr ⟨b,cap,rfl,rfl,zS,Gq,arr.size,by rw[yq w b b _ arr Gq (0,0) hg Ql];exact UC,yn⟩)
            rw[UG] at Qn
            exact Qn
           ·have Qo:(arr.toList.take ps.length).length=len*i.size:=by simp;omega
            have holds:∀(j:Nat) v,(arr.toList.take ps.length)[j]? = some v→w.cell? ((⟨b,0,none⟩:Addr).add j)=some v:=by
             intro j v hv
             rw[n9,Nat.zero_add,cell_of_row w b j arr Gq (0,0) hg]
             rw[List.getElem?_take] at hv
             split at hv
             ·simpa using hv
             ·cases hv
            have aH:=D4 (P:=P) (w:=w) t1 t2 o.type el i z' hu Ic hi hz ⟨b,0,none⟩ len cap (arr.toList.take ps.length) Qo holds m us Jw Mb MD (by omega) (by omega) WS (growslice_fits (by omega) Gr)
            refine PN _ _ (by rw[H7,DT];exact aH) ?_
            generalize hW:((arr.toList.take ps.length).toArray++us.toArray++Builtin.zeroCells z'.cells (grownCap w (len+m) cap el-(len+m)):Array Value)=narr
            have Gs:iA Γ s a (w.drew.alloc (.cells narr el)) β I :=
             hr.grow (((Ib.refl _ _).drew).alloc (Nat.le_refl _) _) (fun b h=>h) (fun b h => .inl h)
            have xA:(w.drew.alloc (.cells narr el)).heap[w.heap.size]? = some (.cells narr el (0,0)):=heap_alloc_new w.drew _
            have Ik:=grownCap_ge w (len+m) cap el
            have IS:∀{p:PV} {u:Value},Rd I w p u→Rd I (w.drew.alloc (.cells narr el)) p u:=fun h=>h.mono (fun _ h=>h) (fun b o hI=>mN (Below.heap_alloc w.drew _ b (hr.ib b hI)) o)
            have u9:∀(j:Nat) p,(ps++qs)[j]? = some p→∃u,narr[j]? = some u∧u.oneCell'=true∧Rd I (w.drew.alloc (.cells narr el)) p u:=by
             intro j p hp
             have o9:(arr.toList.take ps.length).length=ps.length:=by simp;omega
             have Qp:narr[j]? = if j<ps.length then arr[j]? else if j<ps.length+us.length then us[j-ps.length]? else (Builtin.zeroCells z'.cells (grownCap w (len+m) cap el-(len+m)))[j-(ps.length+us.length)]? := by
              rw[←hW,Array.getElem?_append,Array.getElem?_append]
              simp only[Array.size_append,List.size_toArray,o9,List.getElem?_toArray]
              by_cases hj:j<ps.length
              ·rw[if_pos (by omega),if_pos hj,if_pos hj,List.getElem?_take,if_pos hj];simp
              ·by_cases Fs:j<ps.length+us.length
               ·rw[if_pos Fs,if_neg hj,if_neg hj,if_pos Fs]
               ·rw[if_neg Fs,if_neg hj,if_neg Fs]
             rw[Qp]
             rw[List.getElem?_append] at hp
             by_cases hj:j<ps.length
             ·rw[if_pos hj] at hp ⊢
              obtain⟨u,q1,q2,q3⟩:=Gg j p hp
              exact⟨u,q1,q2,IS q3⟩
             ·rw[if_neg hj] at hp ⊢
              have UF:=(List.getElem?_eq_some_iff.1 hp).1
              have Qm:j-ps.length<us.length:=by rw[←A9.1];exact UF
              rw[if_pos (by omega)]
              obtain⟨q1,q2⟩:=A9.2 _ p us[j-ps.length] hp (List.getElem?_eq_getElem Qm)
              exact⟨_,List.getElem?_eq_getElem Qm,q2.rI q1,IS q2⟩
            refine rM Gs (ob:=some w.heap.size) Bn CL CM (fun b' kI => ?_) (zR xA u9 (by simp)) (.inr ⟨w.heap.size,grownCap w (len+m) cap el,rfl,rfl,Ik,el,_,by unfold World.shape?;rw[xA],?_⟩)
            ·injection kI with kI;subst kI
             exact⟨by simp,fun hI=>Nat.lt_irrefl _ (hr.ib _ hI),(.inl hr.aP.size),fun x hx e=>Nat.lt_irrefl _ (hr.lb x _ (kd.1 hx).1 e)⟩
            ·rw[←hW]
             simp only[Array.size_append,List.size_toArray,Qo,DU,size_zeroCells,Mm,ql,rD]
             rw[←Nat.add_mul,←Nat.add_mul]
             have:len+m+(grownCap w (len+m) cap el-(len+m))=grownCap w (len+m) cap el:=by omega
             rw[this];omega
       ·cases bz
      ·cases bz
     ·cases bz
    ·cases bz
  ·cases bz
 ·cases bz
def CP(T:qU)(n:Nat)(o:Oper)(h:Hint)(s:St):Option (St×List Prop) :=
 match NY T n o h s with
 |some x=>some x
 |none=>Gv T n o h s
theorem zU(hT:uj P T)(hs:∀r,ee Γ.sin r→Γ.n≤r)(hr:Rel Γ s a w)(bz:CP T Γ.n o h s=some (s',ob))(fK:je ob){K:Act→World→Prop}{Q:Exit→Act→World→Prop}
  (hk:∀a' w',Rel Γ s' a' w'→K a' w'):o.wp P a w K Q:=by
 unfold CP at bz
 split at bz
 ·rename_i x hx
  injection bz with bz
  subst bz
  exact Il hT hs hr hx fK hk
 ·exact Gw hT hs hr bz fK hk
end
end Go.Proofs.YtllmkadmohkbfaaGreatDoor.Sym
