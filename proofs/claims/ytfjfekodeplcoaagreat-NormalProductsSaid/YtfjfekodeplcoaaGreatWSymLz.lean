/- Lemmas for the statements of this seat. -/
import Derived.Test.YtfjfekodeplcoaaGreatWSymL
namespace Go.Proofs.YtfjfekodeplcoaaGreat.Sym
open Go Go.RowKit
set_option linter.unusedVariables false
set_option linter.unusedSimpArgs false
section
variable {P:Program} {T:ja} {Γ:Ctx} {s s':St} {a:Act} {w:World} {β:Nat→Option Nat} {I:Nat→Prop} {o:Oper} {h:Hint} {ob:List Prop}
theorem uK{m:Nat}(h:m<9223372036854775808):IntKind.i64.wrap (m:Int)=m:=by
 have:=IntKind.wrap_i64 (m:Int)
 omega
theorem pL{t t2 e:TypeId}{de:TD}(hu:P.underlying t=some (.slice e))(wN:P.underlying t2=some (.int .i64))(hd:ov P e de)(ty:TypeId)(ao:Option Addr)(len cap:Nat)(hc:len≤cap) :
  (Builtin.append_ #[t,t2] ty #[.slice ao len cap,.int .i64 ((0:Nat):Int)]).run P w = .ok (.slice ao len cap) w:=by
 obtain⟨i,hi,_,_,OT⟩:=hd.run_typeInfo w
 have hw:IntKind.i64.wrap (0:Int)=0:=uK (m:=0) (by omega)
 cases ao<;>simp[Builtin.append_,run_underlying hu,run_underlying wN,hd.run_sizeOf w,hi,OT,asInt,asIntOf,hw,hc,storeCells]
theorem xF(t t2 ty e:TypeId)(i:TypeInfo)(z:Value)(ht:P.underlying t=some (.slice e))(wN:P.underlying t2=some (.int .i64))(hi:P.info? e=some i)(hz:i.zero=some z)
  (n:Nat) (us:List Value) (xW:us=(Builtin.zeroCells z.cells n).toList)
  (h0:0<n) (EP:0<i.size) (OZ:(n:Int)≤9223372036854775807) (O0:n*i.bytes≤281474976710656) :
  (Builtin.append_ #[t,t2] ty #[.slice none 0 0,.int .i64 (n:Int)]).run P w =
   .ok (.slice (some ⟨w.heap.size,0,none⟩) n (grownCap w n 0 e)) (w.drew.alloc (.cells (us.toArray++Builtin.zeroCells z.cells (grownCap w n 0 e-n)) e)):=by
 subst xW
 have hn:n≠0:=by omega
 have Az:¬(n*i.size=0):=fun h=>by rcases Nat.mul_eq_zero.1 h with h|h<;>omega
 have hw:=uK (m:=n) (by omega)
 have cQ:¬((n:Int)<0):=by omega
 have Kc:¬(281474976710656<(n:Int)*(i.bytes:Int)):=by
  have GJ:((n*i.bytes:Nat):Int)≤((281474976710656:Nat):Int):=Int.ofNat_le.2 O0
  rw[Int.natCast_mul] at GJ
  have h7:((281474976710656:Nat):Int)=281474976710656:=rfl
  omega
 have MJ:¬(9223372036854775807<(n:Int)):=by omega
 have MK:¬(281474976710656<Builtin.nextslicecap n 0*i.bytes):=by rw[nextslicecap_zero h0];omega
 simp[Builtin.append_,run_underlying ht,run_underlying wN,sizeOf,typeInfo,zeroValue,hi,hz,asInt,asIntOf,hw,cQ,Kc,hn,Az,MJ,MK,Question.forced,run_firstCells_none,newRow,grownCap]
theorem vQ{t t2 e rh:TypeId}{i:TypeInfo}{z:Value}(ht:P.underlying t=some (.slice e))(wN:P.underlying t2=some (.int .i64))(hi:P.info? e=some i)(hz:i.zero=some z)(ty:TypeId)
  (g kL sV:Nat) (cur:Array Value) (hg:w.heap[g]? = some (.cells cur rh (0,0)))
  (m:Nat) (us:List Value) (xW:us=(Builtin.zeroCells z.cells m).toList) (hl:us.length=m*i.size) (h1:∀u∈us,u.oneCell'=true) (h0:0<m) (EP:0<i.size)
  (lO:kL+m≤sV) (rF:kL*i.size+us.length≤cur.size) (OZ:m<9223372036854775808) (O0:m*i.bytes≤281474976710656) :
  (Builtin.append_ #[t,t2] ty #[.slice (some ⟨g,0,none⟩) kL sV,.int .i64 (m:Int)]).run P w =
   .ok (.slice (some ⟨g,0,none⟩) (kL+m) sV) (w.setRow g (cur.toList.take (kL*i.size)++us++cur.toList.drop (kL*i.size+us.length)).toArray):=by
 have aD:=run_storeCells_at P g (kL*i.size) rh us 0 cur w hg (by simpa using rF) h1
 simp only[Nat.add_zero] at aD
 have hn:m≠0:=by omega
 have Az:¬(m*i.size=0):=fun h=>by rcases Nat.mul_eq_zero.1 h with h|h<;>omega
 have hw:=uK OZ
 have cQ:¬((m:Int)<0):=by omega
 have Kc:¬(281474976710656<(m:Int)*(i.bytes:Int)):=by
  have GJ:((m*i.bytes:Nat):Int)≤((281474976710656:Nat):Int):=Int.ofNat_le.2 O0
  rw[Int.natCast_mul] at GJ
  have h7:((281474976710656:Nat):Int)=281474976710656:=rfl
  omega
 subst xW
 simp[Builtin.append_,run_underlying ht,run_underlying wN,sizeOf,typeInfo,zeroValue,hi,hz,asInt,asIntOf,hw,cQ,Kc,hn,Az,lO,Addr.add_lit] at aD ⊢
 rw[aD];rfl
theorem vR(t t2 ty e:TypeId)(i:TypeInfo)(z:Value)(ht:P.underlying t=some (.slice e))(wN:P.underlying t2=some (.int .i64))(hi:P.info? e=some i)(hz:i.zero=some z)
  (b:Addr) (kL sV:Nat) (Kz:List Value) (H6:Kz.length=kL*i.size) (holds:∀j v,Kz[j]? = some v→w.cell? (b.add j)=some v)
  (n:Nat) (us:List Value) (xW:us=(Builtin.zeroCells z.cells n).toList) (h0:0<n) (EP:0<i.size)
  (hg:sV<kL+n) (OZ:((kL+n:Nat):Int)≤9223372036854775807) (O0:n*i.bytes≤281474976710656) (rF:Builtin.nextslicecap (kL+n) sV*i.bytes≤281474976710656) :
  (Builtin.append_ #[t,t2] ty #[.slice (some b) kL sV,.int .i64 (n:Int)]).run P w =
   .ok (.slice (some ⟨w.heap.size,0,none⟩) (kL+n) (grownCap w (kL+n) sV e))
    (w.drew.alloc (.cells (Kz.toArray++us.toArray++Builtin.zeroCells z.cells (grownCap w (kL+n) sV e-(kL+n))) e)):=by
 subst xW
 have hn:¬(kL+n≤sV):=by omega
 have U3:n≠0:=by omega
 have Az:¬(n*i.size=0):=fun h=>by rcases Nat.mul_eq_zero.1 h with h|h<;>omega
 have hw:=uK (m:=n) (by omega)
 have cQ:¬((n:Int)<0):=by omega
 have Kc:¬(281474976710656<(n:Int)*(i.bytes:Int)):=by
  have GJ:((n*i.bytes:Nat):Int)≤((281474976710656:Nat):Int):=Int.ofNat_le.2 O0
  rw[Int.natCast_mul] at GJ
  have h7:((281474976710656:Nat):Int)=281474976710656:=rfl
  omega
 have MJ:¬(9223372036854775807<((kL:Int)+(n:Int))):=by omega
 have MK:¬(281474976710656<Builtin.nextslicecap (kL+n) sV*i.bytes):=by omega
 have Qu:=run_firstCells_some (P:=P) w.drew i.size kL b kL sV Kz H6 (by simpa using holds)
 simp[Builtin.append_,run_underlying ht,run_underlying wN,sizeOf,typeInfo,zeroValue,hi,hz,asInt,asIntOf,hw,cQ,Kc,hn,U3,Az,MJ,MK,Question.forced,Qu,newRow,grownCap]
 try (congr 2;apply Array.ext';simp[List.append_assoc])
def yM(T:ja)(n:Nat)(o:Oper)(h:Hint)(s:St):Option (St×List Prop) :=
 match o.op,o.dst,h with
 |.call c,some d,.app lJ out=>match c.callee,c.args.toList,c.argTypes.toList with
  |.builtin .append,[x,y],[t1,t2]=>bif Nat.blt d n then
    match T.get t1,T.get t2 with
    |some dt,some du=>match dt.kind,du.kind with
     |.slice el,.int .i64=>match T.get el,cA s.env x,cA s.env y with
      |some de,some (.row r 0 len sz),some (.pv (.int .i64 q))=>match s.sto.get r,(kill r s).sto.get d with
       |some (.pure ps),none=>bif Nat.beq sz de.size&&Nat.ble 1 sz&&Nat.blt r n then
         some (⟨jg (kill r s).env (some d) (.row d 0 lJ sz),(d,.pure out)::(kill r s).sto⟩,
          [ps.length=len*sz,len≤lJ,q=((lJ-len:Nat):Int),ps++(List.replicate (lJ-len) (iu .none de)).flatten=out,lJ*de.bytes≤140737488355328,lJ<9223372036854775808])
        else none
       |_,_=>none
      |_,_,_=>none
     |_,_=>none
    |_,_=>none
   else none
  |_,_,_=>none
 |_,_,_=>none
theorem yN(hT:lH P T)(hs:∀r,aS Γ.sin r→Γ.n≤r)(hr:Rel Γ s a w)(aD:yM T Γ.n o h s=some (s',ob))(bK:cW ob){K:Act→World→Prop}{Q:Exit→Act→World→Prop}
  (hk:∀a' w',Rel Γ s' a' w'→K a' w'):o.wp P a w K Q:=by
 obtain⟨β,I,hr⟩:=hr
 unfold yM at aD
 split at aD
 ·rename_i c d lJ out ml ow
  split at aD
  ·rename_i x y t1 t2 jb fZ yA
   cases ux:(Nat.blt d Γ.n) with
   |false=>simp[ux] at aD
   |true =>
    simp only[ux,cond_true] at aD
    have j0:d<Γ.n:=Nat.le_of_ble_eq_true ux
    split at aD
    ·rename_i dt du GP U4
     split at aD
     ·rename_i el wT Rg
      obtain⟨un,hu,_,hf⟩:=(hT t1 dt GP).under
      rw[wT] at hf
      have hf:un = .slice el:=hf
      subst hf
      obtain⟨Q7,wN,_,QB⟩:=(hT t2 du U4).under
      rw[Rg] at QB
      have QB:Q7 = .int .i64:=QB
      subst QB
      split at aD
      ·rename_i de r len sz q lI hx hy
       split at aD
       ·rename_i ps jf oB
        cases nh:(Nat.beq sz de.size&&Nat.ble 1 sz&&Nat.blt r Γ.n) with
        |false=>simp[nh] at aD
        |true =>
         simp only[nh,cond_true] at aD
         simp only[Bool.and_eq_true] at nh
         have jC:sz=de.size:=Nat.eq_of_beq_eq_true nh.1.1
         have vP:1≤sz:=Nat.le_of_ble_eq_true nh.1.2
         have GQ:r<Γ.n:=Nat.le_of_ble_eq_true nh.2
         injection aD with aD;injection aD with h1 h2
         subst h1;subst h2
         obtain⟨g1,bK⟩:=bK.cons
         obtain⟨gl,bK⟩:=bK.cons
         obtain⟨gq,bK⟩:=bK.cons
         obtain⟨g4,bK⟩:=bK.cons
         obtain⟨g5,g6⟩:=bK.cons
         obtain⟨m,rfl⟩:∃m,lJ=len+m:=⟨lJ-len,by omega⟩
         rw[Nat.add_sub_cancel_left] at gq g4
         have g6:len+m<9223372036854775808:=g6
         subst g4
         obtain⟨i,hi,uq,Ka,z,hz,_,ta,_⟩:=(hT el de lI).info
         obtain⟨z',Ei,_,_,J8⟩:=(hT el de lI).mg w
         have TC:z'=z:=by
          have e1:(zeroValue el).run P w = .ok z w:=by simp[zeroValue,typeInfo,hi,hz]
          rw[e1] at Ei
          injection Ei with Ei _
          exact Ei.symm
         subst TC
         have hex:=hr.uD x _ hx
         have CJ:Rd I w (.int .i64 q) (a.eval y):=hr.uD y _ hy
         have rE:a.eval y = .int .i64 (m:Int):=by generalize a.eval y=v at CJ;cases CJ;rw[gq]
         obtain⟨sq,kK⟩:=hex
         have xz:=(hr.sto.1 r _ jf).1
         have EK:¬aS Γ.sin r:=fun h=>by have:=hs r h;omega
         have ni:¬aS Γ.sin d:=fun h=>absurd (hs d h) (Nat.not_le_of_lt j0)
         have nj:¬aS (kill r s).sto d:=by unfold aS;rw[oB];simp
         obtain⟨us,xW⟩:∃us,us=(Builtin.zeroCells z'.cells m).toList:=⟨_,rfl⟩
         have q8:bT I w ((List.replicate m (iu .none de)).flatten) us:=by
          rw[xW]
          unfold Builtin.zeroCells
          rw[ta]
          have:=yy ((J8 I w).iu .none) m (m*de.size) (by rw[ta]) (by omega)
          rwa[ta] at this
         have rr:us.length=m*i.size:=by rw[xW,Array.length_toList,size_zeroCells,ta,uq]
         have CK:((List.replicate m (iu .none de)).flatten).length=m*sz:=by rw[q8.1,rr,uq,←jC]
         generalize (List.replicate m (iu .none de)).flatten=qs at *
         have A2:∀v' w',(Builtin.append_ #[t1,t2] o.type #[a.eval x,a.eval y]).run P w = .ok v' w'→Rel Γ ⟨jg (kill r s).env (some d) (.row d 0 (len+m) sz),(d,.pure (ps++qs))::(kill r s).sto⟩ (a.put (some d) v') w'→o.wp P a w K Q:=by
          intro v' w' aw gY
          have gV:=sS fZ
          have nO:=sS yA
          obtain⟨cl,args,CY⟩:=c
          simp only at jb gV nO
          subst jb;subst gV;subst nO
          unfold Oper.wp execOp
          simp only[ml,resolve,invoke,builtin,Sem.run_bind,Sem.run_pure,Result.andThen_ok,List.map_toArray,List.map_cons,List.map_nil,aw]
          show K (a.put o.dst v') w'
          rw[ow]
          exact hk _ _ gY
         have EP:0<i.size:=by rw[uq,←jC];exact vP
         have O1:m*i.bytes≤281474976710656:=by
          have:(len+m)*i.bytes≤140737488355328:=by rw[Ka];exact g5
          rw[Nat.add_mul] at this
          omega
         have lU:(len+m)*i.bytes≤140737488355328:=by rw[Ka];exact g5
         have MD:len+m≤maxLen:=by unfold maxLen;omega
         have Kb:∀b,β r=some b→∀x,aS (bz r s.sto) x→β x≠some b:=fun b hb x hx e =>
          (bW.1 hx).2 (hr.sto.2 x r b (bW.1 hx).1 sq e hb)
         rcases kK with ⟨Hs,tC,td⟩|⟨b,cap,j5,td,GK,Ra,nx,q9,rF⟩
         ·
          subst tC
          have H0:ps=[]:=List.eq_nil_of_length_eq_zero (by simpa using g1)
          subst H0
          rcases(Or.inr trivial:False∨True) with hF|_
          ·exact hF.elim
          ·skip
           rcases Nat.eq_zero_or_pos m with Eg|Eg
           ·subst Eg
            have Kw:qs=[]:=List.eq_nil_of_length_eq_zero (by simpa using CK)
            subst Kw
            refine A2 _ _ (by rw[td,rE];exact pL hu wN (hT el de lI) _ none 0 0 (Nat.le_refl _)) ?_
            exact kU hr (ob:=none) j0 ni nj (fun b hb=>by cases hb) (.inl ⟨by simp,rfl⟩) (.inl ⟨rfl,rfl,rfl⟩)
           ·have aw:=xF (P:=P) (w:=w) t1 t2 o.type el i z' hu wN hi hz m us xW Eg EP (by omega) (by simp only[Nat.zero_add] at lU;omega)
            refine A2 _ _ (by rw[td,rE];exact aw) ?_
            have mm:cq Γ s a (w.drew.alloc (.cells (us.toArray++Builtin.zeroCells z'.cells (grownCap w m 0 el-m)) el)) β I :=
             hr.grow (((ur.refl _ _).drew).alloc (Nat.le_refl _) _) (fun b h=>h) (fun b h => .inl h)
            have iv:(w.drew.alloc (.cells (us.toArray++Builtin.zeroCells z'.cells (grownCap w m 0 el-m)) el)).heap[w.heap.size]? = some (.cells (us.toArray++Builtin.zeroCells z'.cells (grownCap w m 0 el-m)) el (0,0)):=heap_alloc_new w.drew _
            have rz:=grownCap_ge w m 0 el
            have lT:∀(j:Nat) p,(([]:List PV)++qs)[j]? = some p→∃u,(us.toArray++Builtin.zeroCells z'.cells (grownCap w m 0 el-m))[j]? = some u∧u.oneCell'=true∧Rd I (w.drew.alloc (.cells (us.toArray++Builtin.zeroCells z'.cells (grownCap w m 0 el-m)) el)) p u:=by
             intro j p hp
             simp only[List.nil_append] at hp
             have hj:j<us.length:=by rw[←q8.1];exact(List.getElem?_eq_some_iff.1 hp).1
             obtain⟨q1,q2⟩:=q8.2 j p us[j] hp (List.getElem?_eq_getElem hj)
             refine⟨us[j],by rw[Array.getElem?_append_left (by simpa using hj)];simp[hj],q2.iN q1,q2.mono (fun _ h=>h) (fun b o hI=>dM (Below.heap_alloc w.drew _ b (hr.ib b hI)) o)⟩
            refine kU mm (ob:=some w.heap.size) j0 ni nj (fun b hb => ?_) (rH iv lT (by simp)) (.inr ⟨w.heap.size,grownCap w m 0 el,rfl,by simp,by simpa using rz,el,_,by unfold World.shape?;rw[iv],?_⟩)
            ·injection hb with hb;subst hb
             exact⟨by simp,fun hI=>Nat.lt_irrefl _ (hr.ib _ hI),(.inl hr.aN.size),fun x hx e=>Nat.lt_irrefl _ (hr.lb x _ (bW.1 hx).1 e)⟩
            ·simp only[Array.size_append,List.size_toArray,rr,size_zeroCells,ta,uq,jC]
             rw[←Nat.add_mul]
             have:m+(grownCap w m 0 el-m)=grownCap w m 0 el:=by omega
             rw[this];omega
         ·
          have GR:Γ.Nw b:=hr.new r b sq (.inl EK) j5
          have A1:=((hr.sto.1 r _ jf).2 b j5)
          obtain⟨arr,rh,hg,Et,ot⟩:=qo xz j5
          have EL:w.shape? b=some (rh,arr.size):=by unfold World.shape?;rw[hg]
          have vJ:nx=arr.size:=by
           rw[EL] at q9;injection q9 with q9;injection q9 with h1 h2;exact h2.symm
          subst vJ
          rcases Nat.eq_zero_or_pos m with Eg|Eg
          ·skip
           subst Eg
           have Kw:qs=[]:=List.eq_nil_of_length_eq_zero (by simpa using CK)
           subst Kw
           refine A2 _ _ (by rw[td,rE];exact pL hu wN (hT el de lI) _ _ len cap GK) ?_
           exact kU hr (ob:=some b) j0 ni nj (fun b' cI=>by injection cI with cI;subst cI;exact⟨A1.1,A1.2,GR,Kb b j5⟩)
            (rH hg (fun j p hp=>ot j p (by simpa using hp)) (by simp)) (.inr ⟨b,cap,rfl,rfl,GK,rh,_,EL,rF⟩)
          ·skip
           have EM:∀u∈us,u.oneCell'=true:=fun u Es=>by
            obtain⟨j,hj⟩:=List.mem_iff_getElem?.1 Es
            have C1:j<qs.length:=by rw[q8.1];exact(List.getElem?_eq_some_iff.1 hj).1
            obtain⟨q1,q2⟩:=q8.2 j _ u (List.getElem?_eq_getElem C1) hj
            exact q2.iN q1
           have xD:len*i.size=ps.length:=by rw[uq,←jC];exact g1.symm
           have Rb:cap*sz≤arr.size:=by omega
           by_cases lO:len+m≤cap
           ·have H2:len*i.size+us.length≤arr.size:=by
             have h3:(len+m)*sz≤cap*sz:=Nat.mul_le_mul_right _ lO
             rw[Nat.add_mul] at h3
             rw[rr,uq,←jC];omega
            have aw:=vQ (P:=P) (w:=w) hu wN hi hz o.type b len cap arr hg m us xW rr EM Eg EP lO H2 (by omega) O1
            refine A2 _ _ (by rw[td,rE];exact aw) ?_
            have yG:(arr.toList.take (len*i.size)++us++arr.toList.drop (len*i.size+us.length)).toArray.size=arr.size:=by
             simp;omega
            have fS:∀j,(arr.toList.take (len*i.size)++us++arr.toList.drop (len*i.size+us.length)).toArray[j]? = if len*i.size≤j∧j<len*i.size+us.length then us[j-len*i.size]? else arr[j]? := by
             intro j
             have:=dI arr.toList (len*i.size) us (by simp;omega) j
             unfold cF at this
             rw[←List.append_assoc] at this
             simp only[List.getElem?_toArray]
             rw[this]
             simp only[Array.getElem?_toList]
            have rJ:∀(j:Nat) p,(ps++qs)[j]? = some p→∃u,(arr.toList.take (len*i.size)++us++arr.toList.drop (len*i.size+us.length)).toArray[j]? = some u∧u.oneCell'=true∧Rd I w p u:=by
             intro j p hp
             rw[fS j]
             rw[List.getElem?_append] at hp
             by_cases hj:j<ps.length
             ·rw[if_pos hj] at hp
              rw[if_neg (by omega)]
              exact ot j p hp
             ·rw[if_neg hj] at hp
              have ME:=(List.getElem?_eq_some_iff.1 hp).1
              have H3:j-ps.length<us.length:=by rw[←q8.1];exact ME
              rw[if_pos (by omega),xD]
              obtain⟨q1,q2⟩:=q8.2 _ p us[j-ps.length] hp (List.getElem?_eq_getElem H3)
              exact⟨_,List.getElem?_eq_getElem H3,q2.iN q1,q2⟩
            have MF:=hr.write (sc' := .pure (ps++qs)) (Nat.lt_of_lt_of_le GQ Γ.small) jf j5 hg yG (fun j e' fj=>by
             simp only[SC.jc,List.getElem?_map] at fj
             cases hp:(ps++qs)[j]? with
             |none=>simp[hp] at fj
             |some p =>
              simp[hp] at fj
              subst fj
              exact rJ j p hp)
            have rK:bz r (aG.set s.sto r (.pure (ps++qs)))=bz r s.sto:=oC r _ s.sto
            have EN:kill r ⟨s.env,aG.set s.sto r (.pure (ps++qs))⟩=kill r s:=by unfold kill;simp only[rK]
            have yH:=kU MF (r:=r) (d:=d) (len:=len+m) (sz:=sz) (out:=ps++qs) (v := .slice (some ⟨b,0,none⟩) (len+m) cap) (ob:=some b) j0 ni (by rw[rK];exact nj)
             (fun b' cI=>by
              injection cI with cI;subst cI
              rw[rK]
              exact⟨by simpa[World.setRow] using A1.1,A1.2,GR,Kb b j5⟩)
             (rH (setRow_heap w b arr _ rh (0,0) hg) (fun j p hp=>by
              obtain⟨u,q1,q2,q3⟩:=rJ j p hp
              exact⟨u,q1,q2,q3.mono (fun _ h=>h) (fun b' o' hI=>dM (setRow_other w b b' _ (fun e=>A1.2 (e ▸ hI))) o')⟩) (by simp))
             (.inr ⟨b,cap,rfl,rfl,lO,rh,arr.size,by rw[kT w b b _ arr rh (0,0) hg yG];exact EL,rF⟩)
            rw[EN] at yH
            exact yH
           ·have yI:(arr.toList.take ps.length).length=len*i.size:=by simp;omega
            have holds:∀(j:Nat) v,(arr.toList.take ps.length)[j]? = some v→w.cell? ((⟨b,0,none⟩:Addr).add j)=some v:=by
             intro j v hv
             rw[eC,Nat.zero_add,cell_of_row w b j arr rh (0,0) hg]
             rw[List.getElem?_take] at hv
             split at hv
             ·simpa using hv
             ·cases hv
            have aw:=vR (P:=P) (w:=w) t1 t2 o.type el i z' hu wN hi hz ⟨b,0,none⟩ len cap (arr.toList.take ps.length) yI holds m us xW Eg EP (by omega) (by omega) O1 (growslice_fits (by omega) lU)
            refine A2 _ _ (by rw[td,rE];exact aw) ?_
            generalize hW:((arr.toList.take ps.length).toArray++us.toArray++Builtin.zeroCells z'.cells (grownCap w (len+m) cap el-(len+m)):Array Value)=narr
            have mm:cq Γ s a (w.drew.alloc (.cells narr el)) β I :=
             hr.grow (((ur.refl _ _).drew).alloc (Nat.le_refl _) _) (fun b h=>h) (fun b h => .inl h)
            have iv:(w.drew.alloc (.cells narr el)).heap[w.heap.size]? = some (.cells narr el (0,0)):=heap_alloc_new w.drew _
            have rz:=grownCap_ge w (len+m) cap el
            have uI:∀{p:PV} {u:Value},Rd I w p u→Rd I (w.drew.alloc (.cells narr el)) p u:=fun h=>h.mono (fun _ h=>h) (fun b o hI=>dM (Below.heap_alloc w.drew _ b (hr.ib b hI)) o)
            have lT:∀(j:Nat) p,(ps++qs)[j]? = some p→∃u,narr[j]? = some u∧u.oneCell'=true∧Rd I (w.drew.alloc (.cells narr el)) p u:=by
             intro j p hp
             have Ed:(arr.toList.take ps.length).length=ps.length:=by simp;omega
             have uJ:narr[j]? = if j<ps.length then arr[j]? else if j<ps.length+us.length then us[j-ps.length]? else (Builtin.zeroCells z'.cells (grownCap w (len+m) cap el-(len+m)))[j-(ps.length+us.length)]? := by
              rw[←hW,Array.getElem?_append,Array.getElem?_append]
              simp only[Array.size_append,List.size_toArray,Ed,List.getElem?_toArray]
              by_cases hj:j<ps.length
              ·rw[if_pos (by omega),if_pos hj,if_pos hj,List.getElem?_take,if_pos hj];simp
              ·by_cases xE:j<ps.length+us.length
               ·rw[if_pos xE,if_neg hj,if_neg hj,if_pos xE]
               ·rw[if_neg xE,if_neg hj,if_neg xE]
             rw[uJ]
             rw[List.getElem?_append] at hp
             by_cases hj:j<ps.length
             ·rw[if_pos hj] at hp ⊢
              obtain⟨u,q1,q2,q3⟩:=ot j p hp
              exact⟨u,q1,q2,uI q3⟩
             ·rw[if_neg hj] at hp ⊢
              have ME:=(List.getElem?_eq_some_iff.1 hp).1
              have H3:j-ps.length<us.length:=by rw[←q8.1];exact ME
              rw[if_pos (by omega)]
              obtain⟨q1,q2⟩:=q8.2 _ p us[j-ps.length] hp (List.getElem?_eq_getElem H3)
              exact⟨_,List.getElem?_eq_getElem H3,q2.iN q1,uI q2⟩
            refine kU mm (ob:=some w.heap.size) j0 ni nj (fun b' cI => ?_) (rH iv lT (by simp)) (.inr ⟨w.heap.size,grownCap w (len+m) cap el,rfl,rfl,rz,el,_,by unfold World.shape?;rw[iv],?_⟩)
            ·injection cI with cI;subst cI
             exact⟨by simp,fun hI=>Nat.lt_irrefl _ (hr.ib _ hI),(.inl hr.aN.size),fun x hx e=>Nat.lt_irrefl _ (hr.lb x _ (bW.1 hx).1 e)⟩
            ·rw[←hW]
             simp only[Array.size_append,List.size_toArray,yI,rr,size_zeroCells,ta,uq,jC]
             rw[←Nat.add_mul,←Nat.add_mul]
             have:len+m+(grownCap w (len+m) cap el-(len+m))=grownCap w (len+m) cap el:=by omega
             rw[this];omega
       ·cases aD
      ·cases aD
     ·cases aD
    ·cases aD
  ·cases aD
 ·cases aD
def uL(T:ja)(n:Nat)(o:Oper)(h:Hint)(s:St):Option (St×List Prop) :=
 match FR T n o h s with
 |some x=>some x
 |none=>yM T n o h s
theorem rL(hT:lH P T)(hs:∀r,aS Γ.sin r→Γ.n≤r)(hr:Rel Γ s a w)(aD:uL T Γ.n o h s=some (s',ob))(bK:cW ob){K:Act→World→Prop}{Q:Exit→Act→World→Prop}
  (hk:∀a' w',Rel Γ s' a' w'→K a' w'):o.wp P a w K Q:=by
 unfold uL at aD
 split at aD
 ·rename_i x hx
  injection aD with aD
  subst aD
  exact AA hT hs hr hx bK hk
 ·exact yN hT hs hr aD bK hk
end
end Go.Proofs.YtfjfekodeplcoaaGreat.Sym
