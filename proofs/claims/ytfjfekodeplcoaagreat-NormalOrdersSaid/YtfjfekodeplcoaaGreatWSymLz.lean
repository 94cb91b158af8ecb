/- Lemmas for the statements of this seat. -/
import Derived.Test.YtfjfekodeplcoaaGreatWSymL
namespace Go.Proofs.YtfjfekodeplcoaaGreat.Sym
open Go Go.RowKit
set_option linter.unusedVariables false
set_option linter.unusedSimpArgs false
section
variable {P:Program} {T:jZ} {Γ:Ctx} {s s':St} {a:Act} {w:World} {β:Nat→Option Nat} {I:Nat→Prop} {o:Oper} {h:Hint} {ob:List Prop}
theorem uh{m:Nat}(h:m<9223372036854775808):IntKind.i64.wrap (m:Int)=m:=by
 have:=IntKind.wrap_i64 (m:Int)
 omega
theorem pN{t t2 e:TypeId}{de:TD}(hu:P.underlying t=some (.slice e))(B6:P.underlying t2=some (.int .i64))(hd:oy P e de)(ty:TypeId)(ao:Option Addr)(len cap:Nat)(hc:len≤cap) :
  (Builtin.append_ #[t,t2] ty #[.slice ao len cap,.int .i64 ((0:Nat):Int)]).run P w = .ok (.slice ao len cap) w:=by
 obtain⟨i,hi,_,_,FT⟩:=hd.run_typeInfo w
 have hw:IntKind.i64.wrap (0:Int)=0:=uh (m:=0) (by omega)
 cases ao<;>simp[Builtin.append_,run_underlying hu,run_underlying B6,hd.run_sizeOf w,hi,FT,asInt,asIntOf,hw,hc,storeCells]
theorem wJ(t t2 ty e:TypeId)(i:TypeInfo)(z:Value)(ht:P.underlying t=some (.slice e))(B6:P.underlying t2=some (.int .i64))(hi:P.info? e=some i)(hz:i.zero=some z)
  (n:Nat) (us:List Value) (zv:us=(Builtin.zeroCells z.cells n).toList)
  (h0:0<n) (GI:0<i.size) (NU:(n:Int)≤9223372036854775807) (NV:n*i.bytes≤281474976710656) :
  (Builtin.append_ #[t,t2] ty #[.slice none 0 0,.int .i64 (n:Int)]).run P w =
   .ok (.slice (some ⟨w.heap.size,0,none⟩) n (grownCap w n 0 e)) (w.drew.alloc (.cells (us.toArray++Builtin.zeroCells z.cells (grownCap w n 0 e-n)) e)):=by
 subst zv
 have hn:n≠0:=by omega
 have Ce:¬(n*i.size=0):=fun h=>by rcases Nat.mul_eq_zero.1 h with h|h<;>omega
 have hw:=uh (m:=n) (by omega)
 have cN:¬((n:Int)<0):=by omega
 have Jh:¬(281474976710656<(n:Int)*(i.bytes:Int)):=by
  have FU:((n*i.bytes:Nat):Int)≤((281474976710656:Nat):Int):=Int.ofNat_le.2 NV
  rw[Int.natCast_mul] at FU
  have h7:((281474976710656:Nat):Int)=281474976710656:=rfl
  omega
 have LU:¬(9223372036854775807<(n:Int)):=by omega
 have LV:¬(281474976710656<Builtin.nextslicecap n 0*i.bytes):=by rw[nextslicecap_zero h0];omega
 simp[Builtin.append_,run_underlying ht,run_underlying B6,sizeOf,typeInfo,zeroValue,hi,hz,asInt,asIntOf,hw,cN,Jh,hn,Ce,LU,LV,Question.forced,run_firstCells_none,newRow,grownCap]
theorem vc{t t2 e xL:TypeId}{i:TypeInfo}{z:Value}(ht:P.underlying t=some (.slice e))(B6:P.underlying t2=some (.int .i64))(hi:P.info? e=some i)(hz:i.zero=some z)(ty:TypeId)
  (g kK sD:Nat) (cur:Array Value) (hg:w.heap[g]? = some (.cells cur xL (0,0)))
  (m:Nat) (us:List Value) (zv:us=(Builtin.zeroCells z.cells m).toList) (hl:us.length=m*i.size) (h1:∀u∈us,u.oneCell'=true) (h0:0<m) (GI:0<i.size)
  (rl:kK+m≤sD) (wF:kK*i.size+us.length≤cur.size) (NU:m<9223372036854775808) (NV:m*i.bytes≤281474976710656) :
  (Builtin.append_ #[t,t2] ty #[.slice (some ⟨g,0,none⟩) kK sD,.int .i64 (m:Int)]).run P w =
   .ok (.slice (some ⟨g,0,none⟩) (kK+m) sD) (w.setRow g (cur.toList.take (kK*i.size)++us++cur.toList.drop (kK*i.size+us.length)).toArray):=by
 have aP:=run_storeCells_at P g (kK*i.size) xL us 0 cur w hg (by simpa using wF) h1
 simp only[Nat.add_zero] at aP
 have hn:m≠0:=by omega
 have Ce:¬(m*i.size=0):=fun h=>by rcases Nat.mul_eq_zero.1 h with h|h<;>omega
 have hw:=uh NU
 have cN:¬((m:Int)<0):=by omega
 have Jh:¬(281474976710656<(m:Int)*(i.bytes:Int)):=by
  have FU:((m*i.bytes:Nat):Int)≤((281474976710656:Nat):Int):=Int.ofNat_le.2 NV
  rw[Int.natCast_mul] at FU
  have h7:((281474976710656:Nat):Int)=281474976710656:=rfl
  omega
 subst zv
 simp[Builtin.append_,run_underlying ht,run_underlying B6,sizeOf,typeInfo,zeroValue,hi,hz,asInt,asIntOf,hw,cN,Jh,hn,Ce,rl,Addr.add_lit] at aP ⊢
 rw[aP];rfl
theorem vd(t t2 ty e:TypeId)(i:TypeInfo)(z:Value)(ht:P.underlying t=some (.slice e))(B6:P.underlying t2=some (.int .i64))(hi:P.info? e=some i)(hz:i.zero=some z)
  (b:Addr) (kK sD:Nat) (JQ:List Value) (Hn:JQ.length=kK*i.size) (holds:∀j v,JQ[j]? = some v→w.cell? (b.add j)=some v)
  (n:Nat) (us:List Value) (zv:us=(Builtin.zeroCells z.cells n).toList) (h0:0<n) (GI:0<i.size)
  (hg:sD<kK+n) (NU:((kK+n:Nat):Int)≤9223372036854775807) (NV:n*i.bytes≤281474976710656) (wF:Builtin.nextslicecap (kK+n) sD*i.bytes≤281474976710656) :
  (Builtin.append_ #[t,t2] ty #[.slice (some b) kK sD,.int .i64 (n:Int)]).run P w =
   .ok (.slice (some ⟨w.heap.size,0,none⟩) (kK+n) (grownCap w (kK+n) sD e))
    (w.drew.alloc (.cells (JQ.toArray++us.toArray++Builtin.zeroCells z.cells (grownCap w (kK+n) sD e-(kK+n))) e)):=by
 subst zv
 have hn:¬(kK+n≤sD):=by omega
 have Tq:n≠0:=by omega
 have Ce:¬(n*i.size=0):=fun h=>by rcases Nat.mul_eq_zero.1 h with h|h<;>omega
 have hw:=uh (m:=n) (by omega)
 have cN:¬((n:Int)<0):=by omega
 have Jh:¬(281474976710656<(n:Int)*(i.bytes:Int)):=by
  have FU:((n*i.bytes:Nat):Int)≤((281474976710656:Nat):Int):=Int.ofNat_le.2 NV
  rw[Int.natCast_mul] at FU
  have h7:((281474976710656:Nat):Int)=281474976710656:=rfl
  omega
 have LU:¬(9223372036854775807<((kK:Int)+(n:Int))):=by omega
 have LV:¬(281474976710656<Builtin.nextslicecap (kK+n) sD*i.bytes):=by omega
 have Pa:=run_firstCells_some (P:=P) w.drew i.size kK b kK sD JQ Hn (by simpa using holds)
 simp[Builtin.append_,run_underlying ht,run_underlying B6,sizeOf,typeInfo,zeroValue,hi,hz,asInt,asIntOf,hw,cN,Jh,hn,Tq,Ce,LU,LV,Question.forced,Pa,newRow,grownCap]
 try (congr 2;apply Array.ext';simp[List.append_assoc])
def xO(T:jZ)(n:Nat)(o:Oper)(h:Hint)(s:St):Option (St×List Prop) :=
 match o.op,o.dst,h with
 |.call c,some d,.app sE out=>match c.callee,c.args.toList,c.argTypes.toList with
  |.builtin .append,[x,y],[t1,t2]=>bif Nat.blt d n then
    match T.get t1,T.get t2 with
    |some dt,some du=>match dt.kind,du.kind with
     |.slice el,.int .i64=>match T.get el,c9 s.env x,c9 s.env y with
      |some de,some (.row r 0 len sz),some (.pv (.int .i64 q))=>match s.sto.get r,(kill r s).sto.get d with
       |some (.pure ps),none=>bif Nat.beq sz de.size&&Nat.ble 1 sz&&Nat.blt r n then
         some (⟨nj (kill r s).env (some d) (.row d 0 sE sz),(d,.pure out)::(kill r s).sto⟩,
          [ps.length=len*sz,len≤sE,q=((sE-len:Nat):Int),ps++(List.replicate (sE-len) (ij .none de)).flatten=out,sE*de.bytes≤140737488355328,sE<9223372036854775808])
        else none
       |_,_=>none
      |_,_,_=>none
     |_,_=>none
    |_,_=>none
   else none
  |_,_,_=>none
 |_,_,_=>none
theorem xP(hT:mN P T)(hs:∀r,bk Γ.sin r→Γ.n≤r)(hr:Rel Γ s a w)(aP:xO T Γ.n o h s=some (s',ob))(cd:dw ob){K:Act→World→Prop}{Q:Exit→Act→World→Prop}
  (hk:∀a' w',Rel Γ s' a' w'→K a' w'):o.wp P a w K Q:=by
 obtain⟨β,I,hr⟩:=hr
 unfold xO at aP
 split at aP
 ·rename_i c d sE out rh Cg
  split at aP
  ·rename_i x y t1 t2 oz gT DQ
   cases DG:(Nat.blt d Γ.n) with
   |false=>simp[DG] at aP
   |true =>
    simp only[DG,cond_true] at aP
    have sC:d<Γ.n:=Nat.le_of_ble_eq_true DG
    split at aP
    ·rename_i dt du NR Tr
     split at aP
     ·rename_i el wZ Ts
      obtain⟨un,hu,_,hf⟩:=(hT t1 dt NR).under
      rw[wZ] at hf
      have hf:un = .slice el:=hf
      subst hf
      obtain⟨P1,B6,_,Pj⟩:=(hT t2 du Tr).under
      rw[Ts] at Pj
      have Pj:P1 = .int .i64:=Pj
      subst Pj
      split at aP
      ·rename_i de r len sz q oA hx hy
       split at aP
       ·rename_i ps mP sM
        cases rb:(Nat.beq sz de.size&&Nat.ble 1 sz&&Nat.blt r Γ.n) with
        |false=>simp[rb] at aP
        |true =>
         simp only[rb,cond_true] at aP
         simp only[Bool.and_eq_true] at rb
         have jo:sz=de.size:=Nat.eq_of_beq_eq_true rb.1.1
         have NS:1≤sz:=Nat.le_of_ble_eq_true rb.1.2
         have JL:r<Γ.n:=Nat.le_of_ble_eq_true rb.2
         injection aP with aP;injection aP with h1 h2
         subst h1;subst h2
         obtain⟨g1,cd⟩:=cd.cons
         obtain⟨gl,cd⟩:=cd.cons
         obtain⟨gq,cd⟩:=cd.cons
         obtain⟨g4,cd⟩:=cd.cons
         obtain⟨g5,g6⟩:=cd.cons
         obtain⟨m,rfl⟩:∃m,sE=len+m:=⟨sE-len,by omega⟩
         rw[Nat.add_sub_cancel_left] at gq g4
         have g6:len+m<9223372036854775808:=g6
         subst g4
         obtain⟨i,hi,zZ,Np,z,hz,_,xx,_⟩:=(hT el de oA).info
         obtain⟨z',Du,_,_,Jc⟩:=(hT el de oA).pD w
         have Tt:z'=z:=by
          have e1:(zeroValue el).run P w = .ok z w:=by simp[zeroValue,typeInfo,hi,hz]
          rw[e1] at Du
          injection Du with Du _
          exact Du.symm
         subst Tt
         have hex:=hr.BW x _ hx
         have ET:Rd I w (.int .i64 q) (a.eval y):=hr.BW y _ hy
         have u4:a.eval y = .int .i64 (m:Int):=by generalize a.eval y=v at ET;cases ET;rw[gq]
         obtain⟨u7,pL⟩:=hex
         have BX:=(hr.sto.1 r _ mP).1
         have LL:¬bk Γ.sin r:=fun h=>by have:=hs r h;omega
         have uc:¬bk Γ.sin d:=fun h=>absurd (hs d h) (Nat.not_le_of_lt sC)
         have ud:¬bk (kill r s).sto d:=by unfold bk;rw[sM];simp
         obtain⟨us,zv⟩:∃us,us=(Builtin.zeroCells z'.cells m).toList:=⟨_,rfl⟩
         have tc:bJ I w ((List.replicate m (ij .none de)).flatten) us:=by
          rw[zv]
          unfold Builtin.zeroCells
          rw[xx]
          have:=xC ((Jc I w).ij .none) m (m*de.size) (by rw[xx]) (by omega)
          rwa[xx] at this
         have u5:us.length=m*i.size:=by rw[zv,Array.length_toList,size_zeroCells,xx,zZ]
         have z8:((List.replicate m (ij .none de)).flatten).length=m*sz:=by rw[tc.1,u5,zZ,←jo]
         generalize (List.replicate m (ij .none de)).flatten=qs at *
         have GG:∀v' w',(Builtin.append_ #[t1,t2] o.type #[a.eval x,a.eval y]).run P w = .ok v' w'→Rel Γ ⟨nj (kill r s).env (some d) (.row d 0 (len+m) sz),(d,.pure (ps++qs))::(kill r s).sto⟩ (a.put (some d) v') w'→o.wp P a w K Q:=by
          intro v' w' ax jL
          have lY:=wI gT
          have tY:=wI DQ
          obtain⟨cl,args,GC⟩:=c
          simp only at oz lY tY
          subst oz;subst lY;subst tY
          unfold Oper.wp execOp
          simp only[rh,resolve,invoke,builtin,Sem.run_bind,Sem.run_pure,Result.andThen_ok,List.map_toArray,List.map_cons,List.map_nil,ax]
          show K (a.put o.dst v') w'
          rw[Cg]
          exact hk _ _ jL
         have GI:0<i.size:=by rw[zZ,←jo];exact NS
         have NW:m*i.bytes≤281474976710656:=by
          have:(len+m)*i.bytes≤140737488355328:=by rw[Np];exact g5
          rw[Nat.add_mul] at this
          omega
         have th:(len+m)*i.bytes≤140737488355328:=by rw[Np];exact g5
         have P5:len+m≤maxLen:=by unfold maxLen;omega
         have Nq:∀b,β r=some b→∀x,bk (dh r s.sto) x→β x≠some b:=fun b hb x hx e =>
          (ew.1 hx).2 (hr.sto.2 x r b (ew.1 hx).1 u7 e hb)
         rcases pL with ⟨Jf,Ca,zm⟩|⟨b,cap,mX,zm,JF,Tl,nx,xF,wF⟩
         ·
          subst Ca
          have He:ps=[]:=List.eq_nil_of_length_eq_zero (by simpa using g1)
          subst He
          rcases(Or.inr trivial:False∨True) with hF|_
          ·exact hF.elim
          ·skip
           rcases Nat.eq_zero_or_pos m with Ds|Ds
           ·subst Ds
            have Jg:qs=[]:=List.eq_nil_of_length_eq_zero (by simpa using z8)
            subst Jg
            refine GG _ _ (by rw[zm,u4];exact pN hu B6 (hT el de oA) _ none 0 0 (Nat.le_refl _)) ?_
            exact kW hr (ob:=none) sC uc ud (fun b hb=>by cases hb) (.inl ⟨by simp,rfl⟩) (.inl ⟨rfl,rfl,rfl⟩)
           ·have ax:=wJ (P:=P) (w:=w) t1 t2 o.type el i z' hu B6 hi hz m us zv Ds GI (by omega) (by simp only[Nat.zero_add] at th;omega)
            refine GG _ _ (by rw[zm,u4];exact ax) ?_
            have uf:cO Γ s a (w.drew.alloc (.cells (us.toArray++Builtin.zeroCells z'.cells (grownCap w m 0 el-m)) el)) β I :=
             hr.grow (((wx.refl _ _).drew).alloc (Nat.le_refl _) _) (fun b h=>h) (fun b h => .inl h)
            have pF:(w.drew.alloc (.cells (us.toArray++Builtin.zeroCells z'.cells (grownCap w m 0 el-m)) el)).heap[w.heap.size]? = some (.cells (us.toArray++Builtin.zeroCells z'.cells (grownCap w m 0 el-m)) el (0,0)):=heap_alloc_new w.drew _
            have vb:=grownCap_ge w m 0 el
            have nS:∀(j:Nat) p,(([]:List PV)++qs)[j]? = some p→∃u,(us.toArray++Builtin.zeroCells z'.cells (grownCap w m 0 el-m))[j]? = some u∧u.oneCell'=true∧Rd I (w.drew.alloc (.cells (us.toArray++Builtin.zeroCells z'.cells (grownCap w m 0 el-m)) el)) p u:=by
             intro j p hp
             simp only[List.nil_append] at hp
             have hj:j<us.length:=by rw[←tc.1];exact(List.getElem?_eq_some_iff.1 hp).1
             obtain⟨q1,q2⟩:=tc.2 j p us[j] hp (List.getElem?_eq_getElem hj)
             refine⟨us[j],by rw[Array.getElem?_append_left (by simpa using hj)];simp[hj],q2.iD q1,q2.mono (fun _ h=>h) (fun b o hI=>eX (Below.heap_alloc w.drew _ b (hr.ib b hI)) o)⟩
            refine kW uf (ob:=some w.heap.size) sC uc ud (fun b hb => ?_) (rj pF nS (by simp)) (.inr ⟨w.heap.size,grownCap w m 0 el,rfl,by simp,by simpa using vb,el,_,by unfold World.shape?;rw[pF],?_⟩)
            ·injection hb with hb;subst hb
             exact⟨by simp,fun hI=>Nat.lt_irrefl _ (hr.ib _ hI),(.inl hr.aH.size),fun x hx e=>Nat.lt_irrefl _ (hr.lb x _ (ew.1 hx).1 e)⟩
            ·simp only[Array.size_append,List.size_toArray,u5,size_zeroCells,xx,zZ,jo]
             rw[←Nat.add_mul]
             have:m+(grownCap w m 0 el-m)=grownCap w m 0 el:=by omega
             rw[this];omega
         ·
          have DX:Γ.Nw b:=hr.new r b u7 (.inl LL) mX
          have FX:=((hr.sto.1 r _ mP).2 b mX)
          obtain⟨arr,xL,hg,Jy,tQ⟩:=qq BX mX
          have JN:w.shape? b=some (xL,arr.size):=by unfold World.shape?;rw[hg]
          have AN:nx=arr.size:=by
           rw[JN] at xF;injection xF with xF;injection xF with h1 h2;exact h2.symm
          subst AN
          rcases Nat.eq_zero_or_pos m with Ds|Ds
          ·skip
           subst Ds
           have Jg:qs=[]:=List.eq_nil_of_length_eq_zero (by simpa using z8)
           subst Jg
           refine GG _ _ (by rw[zm,u4];exact pN hu B6 (hT el de oA) _ _ len cap JF) ?_
           exact kW hr (ob:=some b) sC uc ud (fun b' cX=>by injection cX with cX;subst cX;exact⟨FX.1,FX.2,DX,Nq b mX⟩)
            (rj hg (fun j p hp=>tQ j p (by simpa using hp)) (by simp)) (.inr ⟨b,cap,rfl,rfl,JF,xL,_,JN,wF⟩)
          ·skip
           have LM:∀u∈us,u.oneCell'=true:=fun u DF=>by
            obtain⟨j,hj⟩:=List.mem_iff_getElem?.1 DF
            have DW:j<qs.length:=by rw[tc.1];exact(List.getElem?_eq_some_iff.1 hj).1
            obtain⟨q1,q2⟩:=tc.2 j _ u (List.getElem?_eq_getElem DW) hj
            exact q2.iD q1
           have LN:len*i.size=ps.length:=by rw[zZ,←jo];exact g1.symm
           have P6:cap*sz≤arr.size:=by omega
           by_cases rl:len+m≤cap
           ·have Hf:len*i.size+us.length≤arr.size:=by
             have h3:(len+m)*sz≤cap*sz:=Nat.mul_le_mul_right _ rl
             rw[Nat.add_mul] at h3
             rw[u5,zZ,←jo];omega
            have ax:=vc (P:=P) (w:=w) hu B6 hi hz o.type b len cap arr hg m us zv u5 LM Ds GI rl Hf (by omega) NW
            refine GG _ _ (by rw[zm,u4];exact ax) ?_
            have Hg:(arr.toList.take (len*i.size)++us++arr.toList.drop (len*i.size+us.length)).toArray.size=arr.size:=by
             simp;omega
            have lZ:∀j,(arr.toList.take (len*i.size)++us++arr.toList.drop (len*i.size+us.length)).toArray[j]? = if len*i.size≤j∧j<len*i.size+us.length then us[j-len*i.size]? else arr[j]? := by
             intro j
             have:=fI arr.toList (len*i.size) us (by simp;omega) j
             unfold cZ at this
             rw[←List.append_assoc] at this
             simp only[List.getElem?_toArray]
             rw[this]
             simp only[Array.getElem?_toList]
            have Ck:∀(j:Nat) p,(ps++qs)[j]? = some p→∃u,(arr.toList.take (len*i.size)++us++arr.toList.drop (len*i.size+us.length)).toArray[j]? = some u∧u.oneCell'=true∧Rd I w p u:=by
             intro j p hp
             rw[lZ j]
             rw[List.getElem?_append] at hp
             by_cases hj:j<ps.length
             ·rw[if_pos hj] at hp
              rw[if_neg (by omega)]
              exact tQ j p hp
             ·rw[if_neg hj] at hp
              have LO:=(List.getElem?_eq_some_iff.1 hp).1
              have Hh:j-ps.length<us.length:=by rw[←tc.1];exact LO
              rw[if_pos (by omega),LN]
              obtain⟨q1,q2⟩:=tc.2 _ p us[j-ps.length] hp (List.getElem?_eq_getElem Hh)
              exact⟨_,List.getElem?_eq_getElem Hh,q2.iD q1,q2⟩
            have P7:=hr.write (sc' := .pure (ps++qs)) (Nat.lt_of_lt_of_le JL Γ.small) mP mX hg Hg (fun j e' gr=>by
             simp only[SC.pE,List.getElem?_map] at gr
             cases hp:(ps++qs)[j]? with
             |none=>simp[hp] at gr
             |some p =>
              simp[hp] at gr
              subst gr
              exact Ck j p hp)
            have DY:dh r (aN.set s.sto r (.pure (ps++qs)))=dh r s.sto:=vS r _ s.sto
            have LP:kill r ⟨s.env,aN.set s.sto r (.pure (ps++qs))⟩=kill r s:=by unfold kill;simp only[DY]
            have Hi:=kW P7 (r:=r) (d:=d) (len:=len+m) (sz:=sz) (out:=ps++qs) (v := .slice (some ⟨b,0,none⟩) (len+m) cap) (ob:=some b) sC uc (by rw[DY];exact ud)
             (fun b' cX=>by
              injection cX with cX;subst cX
              rw[DY]
              exact⟨by simpa[World.setRow] using FX.1,FX.2,DX,Nq b mX⟩)
             (rj (setRow_heap w b arr _ xL (0,0) hg) (fun j p hp=>by
              obtain⟨u,q1,q2,q3⟩:=Ck j p hp
              exact⟨u,q1,q2,q3.mono (fun _ h=>h) (fun b' o' hI=>eX (setRow_other w b b' _ (fun e=>FX.2 (e ▸ hI))) o')⟩) (by simp))
             (.inr ⟨b,cap,rfl,rfl,rl,xL,arr.size,by rw[qp w b b _ arr xL (0,0) hg Hg];exact JN,wF⟩)
            rw[LP] at Hi
            exact Hi
           ·have Hj:(arr.toList.take ps.length).length=len*i.size:=by simp;omega
            have holds:∀(j:Nat) v,(arr.toList.take ps.length)[j]? = some v→w.cell? ((⟨b,0,none⟩:Addr).add j)=some v:=by
             intro j v hv
             rw[gk,Nat.zero_add,cell_of_row w b j arr xL (0,0) hg]
             rw[List.getElem?_take] at hv
             split at hv
             ·simpa using hv
             ·cases hv
            have ax:=vd (P:=P) (w:=w) t1 t2 o.type el i z' hu B6 hi hz ⟨b,0,none⟩ len cap (arr.toList.take ps.length) Hj holds m us zv Ds GI (by omega) (by omega) NW (growslice_fits (by omega) th)
            refine GG _ _ (by rw[zm,u4];exact ax) ?_
            generalize hW:((arr.toList.take ps.length).toArray++us.toArray++Builtin.zeroCells z'.cells (grownCap w (len+m) cap el-(len+m)):Array Value)=narr
            have uf:cO Γ s a (w.drew.alloc (.cells narr el)) β I :=
             hr.grow (((wx.refl _ _).drew).alloc (Nat.le_refl _) _) (fun b h=>h) (fun b h => .inl h)
            have pF:(w.drew.alloc (.cells narr el)).heap[w.heap.size]? = some (.cells narr el (0,0)):=heap_alloc_new w.drew _
            have vb:=grownCap_ge w (len+m) cap el
            have ug:∀{p:PV} {u:Value},Rd I w p u→Rd I (w.drew.alloc (.cells narr el)) p u:=fun h=>h.mono (fun _ h=>h) (fun b o hI=>eX (Below.heap_alloc w.drew _ b (hr.ib b hI)) o)
            have nS:∀(j:Nat) p,(ps++qs)[j]? = some p→∃u,narr[j]? = some u∧u.oneCell'=true∧Rd I (w.drew.alloc (.cells narr el)) p u:=by
             intro j p hp
             have G2:(arr.toList.take ps.length).length=ps.length:=by simp;omega
             have Hk:narr[j]? = if j<ps.length then arr[j]? else if j<ps.length+us.length then us[j-ps.length]? else (Builtin.zeroCells z'.cells (grownCap w (len+m) cap el-(len+m)))[j-(ps.length+us.length)]? := by
              rw[←hW,Array.getElem?_append,Array.getElem?_append]
              simp only[Array.size_append,List.size_toArray,G2,List.getElem?_toArray]
              by_cases hj:j<ps.length
              ·rw[if_pos (by omega),if_pos hj,if_pos hj,List.getElem?_take,if_pos hj];simp
              ·by_cases DZ:j<ps.length+us.length
               ·rw[if_pos DZ,if_neg hj,if_neg hj,if_pos DZ]
               ·rw[if_neg DZ,if_neg hj,if_neg DZ]
             rw[Hk]
             rw[List.getElem?_append] at hp
             by_cases hj:j<ps.length
             ·rw[if_pos hj] at hp ⊢
              obtain⟨u,q1,q2,q3⟩:=tQ j p hp
              exact⟨u,q1,q2,ug q3⟩
             ·rw[if_neg hj] at hp ⊢
              have LO:=(List.getElem?_eq_some_iff.1 hp).1
              have Hh:j-ps.length<us.length:=by rw[←tc.1];exact LO
              rw[if_pos (by omega)]
              obtain⟨q1,q2⟩:=tc.2 _ p us[j-ps.length] hp (List.getElem?_eq_getElem Hh)
              exact⟨_,List.getElem?_eq_getElem Hh,q2.iD q1,ug q2⟩
            refine kW uf (ob:=some w.heap.size) sC uc ud (fun b' cX => ?_) (rj pF nS (by simp)) (.inr ⟨w.heap.size,grownCap w (len+m) cap el,rfl,rfl,vb,el,_,by unfold World.shape?;rw[pF],?_⟩)
            ·injection cX with cX;subst cX
             exact⟨by simp,fun hI=>Nat.lt_irrefl _ (hr.ib _ hI),(.inl hr.aH.size),fun x hx e=>Nat.lt_irrefl _ (hr.lb x _ (ew.1 hx).1 e)⟩
            ·rw[←hW]
             simp only[Array.size_append,List.size_toArray,Hj,u5,size_zeroCells,xx,zZ,jo]
             rw[←Nat.add_mul,←Nat.add_mul]
             have:len+m+(grownCap w (len+m) cap el-(len+m))=grownCap w (len+m) cap el:=by omega
             rw[this];omega
       ·cases aP
      ·cases aP
     ·cases aP
    ·cases aP
  ·cases aP
 ·cases aP
def ui(T:jZ)(n:Nat)(o:Oper)(h:Hint)(s:St):Option (St×List Prop) :=
 match EW T n o h s with
 |some x=>some x
 |none=>xO T n o h s
theorem rn(hT:mN P T)(hs:∀r,bk Γ.sin r→Γ.n≤r)(hr:Rel Γ s a w)(aP:ui T Γ.n o h s=some (s',ob))(cd:dw ob){K:Act→World→Prop}{Q:Exit→Act→World→Prop}
  (hk:∀a' w',Rel Γ s' a' w'→K a' w'):o.wp P a w K Q:=by
 unfold ui at aP
 split at aP
 ·rename_i x hx
  injection aP with aP
  subst aP
  exact zA hT hs hr hx cd hk
 ·exact xP hT hs hr aP cd hk
end
end Go.Proofs.YtfjfekodeplcoaaGreat.Sym
