/- The comparison of algebraic numbers is a total order that agrees with the comparison with fractions. The law AlgebraicOrder returns true for every input, with the tables of numerals of the Go library that the row lists as they are laid. -/
import Derived.Test.YtllmkadmohkbfaaGreatDoorYSymL
namespace Go.Proofs.YtllmkadmohkbfaaGreatDoor.Sym
open Go Go.RowKit
set_option linter.unusedVariables false
set_option linter.unusedSimpArgs false
section
variable {P:Program} {T:j0} {Γ:Ctx} {s s':St} {a:Act} {w:World} {β:Nat→Option Nat} {I:Nat→Prop} {o:Oper} {h:Hint} {ob:List Prop}
theorem uP{m:Nat}(h:m<9223372036854775808):IntKind.i64.wrap (m:Int)=m:=by
 have:=IntKind.wrap_i64 (m:Int)
 omega
theorem px{t t2 e:TypeId}{de:TD}(hu:P.underlying t=some (.slice e))(Cw:P.underlying t2=some (.int .i64))(hd:ph P e de)(ty:TypeId)(ao:Option Addr)(len cap:Nat)(hc:len≤cap) :
  (Builtin.append_ #[t,t2] ty #[.slice ao len cap,.int .i64 ((0:Nat):Int)]).run P w = .ok (.slice ao len cap) w:=by
 obtain⟨i,hi,_,_,Tl⟩:=hd.run_typeInfo w
 have hw:IntKind.i64.wrap (0:Int)=0:=uP (m:=0) (by omega)
 cases ao<;>simp[Builtin.append_,run_underlying hu,run_underlying Cw,hd.run_sizeOf w,hi,Tl,asInt,asIntOf,hw,hc,storeCells]
theorem xW(t t2 ty e:TypeId)(i:TypeInfo)(z:Value)(ht:P.underlying t=some (.slice e))(Cw:P.underlying t2=some (.int .i64))(hi:P.info? e=some i)(hz:i.zero=some z)
  (n:Nat) (us:List Value) (Cv:us=(Builtin.zeroCells z.cells n).toList)
  (h0:0<n) (Jb:0<i.size) (TA:(n:Int)≤9223372036854775807) (Rb:n*i.bytes≤281474976710656) :
  (Builtin.append_ #[t,t2] ty #[.slice none 0 0,.int .i64 (n:Int)]).run P w =
   .ok (.slice (some ⟨w.heap.size,0,none⟩) n (grownCap w n 0 e)) (w.drew.alloc (.cells (us.toArray++Builtin.zeroCells z.cells (grownCap w n 0 e-n)) e)):=by
 subst Cv
 have hn:n≠0:=by omega
 have D6:¬(n*i.size=0):=fun h=>by rcases Nat.mul_eq_zero.1 h with h|h<;>omega
 have hw:=uP (m:=n) (by omega)
 have bh:¬((n:Int)<0):=by omega
 have NT:¬(281474976710656<(n:Int)*(i.bytes:Int)):=by
  have Jw:((n*i.bytes:Nat):Int)≤((281474976710656:Nat):Int):=Int.ofNat_le.2 Rb
  rw[Int.natCast_mul] at Jw
  have h7:((281474976710656:Nat):Int)=281474976710656:=rfl
  omega
 have OU:¬(9223372036854775807<(n:Int)):=by omega
 have OV:¬(281474976710656<Builtin.nextslicecap n 0*i.bytes):=by rw[nextslicecap_zero h0];omega
 simp[Builtin.append_,run_underlying ht,run_underlying Cw,sizeOf,typeInfo,zeroValue,hi,hz,asInt,asIntOf,hw,bh,NT,hn,D6,OU,OV,Question.forced,run_firstCells_none,newRow,grownCap]
theorem wb{t t2 e yT:TypeId}{i:TypeInfo}{z:Value}(ht:P.underlying t=some (.slice e))(Cw:P.underlying t2=some (.int .i64))(hi:P.info? e=some i)(hz:i.zero=some z)(ty:TypeId)
  (g kG s7:Nat) (cur:Array Value) (hg:w.heap[g]? = some (.cells cur yT (0,0)))
  (m:Nat) (us:List Value) (Cv:us=(Builtin.zeroCells z.cells m).toList) (hl:us.length=m*i.size) (h1:∀u∈us,u.oneCell'=true) (h0:0<m) (Jb:0<i.size)
  (rk:kG+m≤s7) (oX:kG*i.size+us.length≤cur.size) (TA:m<9223372036854775808) (Rb:m*i.bytes≤281474976710656) :
  (Builtin.append_ #[t,t2] ty #[.slice (some ⟨g,0,none⟩) kG s7,.int .i64 (m:Int)]).run P w =
   .ok (.slice (some ⟨g,0,none⟩) (kG+m) s7) (w.setRow g (cur.toList.take (kG*i.size)++us++cur.toList.drop (kG*i.size+us.length)).toArray):=by
 have aI:=run_storeCells_at P g (kG*i.size) yT us 0 cur w hg (by simpa using oX) h1
 simp only[Nat.add_zero] at aI
 have hn:m≠0:=by omega
 have D6:¬(m*i.size=0):=fun h=>by rcases Nat.mul_eq_zero.1 h with h|h<;>omega
 have hw:=uP TA
 have bh:¬((m:Int)<0):=by omega
 have NT:¬(281474976710656<(m:Int)*(i.bytes:Int)):=by
  have Jw:((m*i.bytes:Nat):Int)≤((281474976710656:Nat):Int):=Int.ofNat_le.2 Rb
  rw[Int.natCast_mul] at Jw
  have h7:((281474976710656:Nat):Int)=281474976710656:=rfl
  omega
 subst Cv
 simp[Builtin.append_,run_underlying ht,run_underlying Cw,sizeOf,typeInfo,zeroValue,hi,hz,asInt,asIntOf,hw,bh,NT,hn,D6,rk,Addr.add_lit] at aI ⊢
 rw[aI];rfl
theorem wc(t t2 ty e:TypeId)(i:TypeInfo)(z:Value)(ht:P.underlying t=some (.slice e))(Cw:P.underlying t2=some (.int .i64))(hi:P.info? e=some i)(hz:i.zero=some z)
  (b:Addr) (kG s7:Nat) (MB:List Value) (Fy:MB.length=kG*i.size) (holds:∀j v,MB[j]? = some v→w.cell? (b.add j)=some v)
  (n:Nat) (us:List Value) (Cv:us=(Builtin.zeroCells z.cells n).toList) (h0:0<n) (Jb:0<i.size)
  (hg:s7<kG+n) (TA:((kG+n:Nat):Int)≤9223372036854775807) (Rb:n*i.bytes≤281474976710656) (oX:Builtin.nextslicecap (kG+n) s7*i.bytes≤281474976710656) :
  (Builtin.append_ #[t,t2] ty #[.slice (some b) kG s7,.int .i64 (n:Int)]).run P w =
   .ok (.slice (some ⟨w.heap.size,0,none⟩) (kG+n) (grownCap w (kG+n) s7 e))
    (w.drew.alloc (.cells (MB.toArray++us.toArray++Builtin.zeroCells z.cells (grownCap w (kG+n) s7 e-(kG+n))) e)):=by
 subst Cv
 have hn:¬(kG+n≤s7):=by omega
 have TB:n≠0:=by omega
 have D6:¬(n*i.size=0):=fun h=>by rcases Nat.mul_eq_zero.1 h with h|h<;>omega
 have hw:=uP (m:=n) (by omega)
 have bh:¬((n:Int)<0):=by omega
 have NT:¬(281474976710656<(n:Int)*(i.bytes:Int)):=by
  have Jw:((n*i.bytes:Nat):Int)≤((281474976710656:Nat):Int):=Int.ofNat_le.2 Rb
  rw[Int.natCast_mul] at Jw
  have h7:((281474976710656:Nat):Int)=281474976710656:=rfl
  omega
 have OU:¬(9223372036854775807<((kG:Int)+(n:Int))):=by omega
 have OV:¬(281474976710656<Builtin.nextslicecap (kG+n) s7*i.bytes):=by omega
 have Xf:=run_firstCells_some (P:=P) w.drew i.size kG b kG s7 MB Fy (by simpa using holds)
 simp[Builtin.append_,run_underlying ht,run_underlying Cw,sizeOf,typeInfo,zeroValue,hi,hz,asInt,asIntOf,hw,bh,NT,hn,TB,D6,OU,OV,Question.forced,Xf,newRow,grownCap]
 try (congr 2;apply Array.ext';simp[List.append_assoc])
def yY(T:j0)(n:Nat)(o:Oper)(h:Hint)(s:St):Option (St×List Prop) :=
 match o.op,o.dst,h with
 |.call c,some d,.app s8 out=>match c.callee,c.args.toList,c.argTypes.toList with
  |.builtin .append,[x,y],[t1,t2]=>bif Nat.blt d n then
    match T.get t1,T.get t2 with
    |some dt,some du=>match dt.kind,du.kind with
     |.slice el,.int .i64=>match T.get el,cZ s.env x,cZ s.env y with
      |some de,some (.row r 0 len sz),some (.pv (.int .i64 q))=>match s.aG.get r,(kill r s).aG.get d with
       |some (.pure ps),none=>bif Nat.beq sz de.size&&Nat.ble 1 sz&&Nat.blt r n then
         some (⟨nm (kill r s).env (some d) (.row d 0 s8 sz),(d,.pure out)::(kill r s).aG⟩,
          [ps.length=len*sz,len≤s8,q=((s8-len:Nat):Int),ps++(List.replicate (s8-len) (jy .none de)).flatten=out,s8*de.bytes≤140737488355328,s8<9223372036854775808])
        else none
       |_,_=>none
      |_,_,_=>none
     |_,_=>none
    |_,_=>none
   else none
  |_,_,_=>none
 |_,_,_=>none
theorem yZ(hT:mC P T)(hs:∀r,bM Γ.sin r→Γ.n≤r)(hr:Rel Γ s a w)(aI:yY T Γ.n o h s=some (s',ob))(cb:dA ob){K:Act→World→Prop}{Q:Exit→Act→World→Prop}
  (hk:∀a' w',Rel Γ s' a' w'→K a' w'):o.wp P a w K Q:=by
 obtain⟨β,I,hr⟩:=hr
 unfold yY at aI
 split at aI
 ·rename_i c d s8 out s6 D8
  split at aI
  ·rename_i x y t1 t2 qQ jz FU
   cases pj:(Nat.blt d Γ.n) with
   |false=>simp[pj] at aI
   |true =>
    simp only[pj,cond_true] at aI
    have ti:d<Γ.n:=Nat.le_of_ble_eq_true pj
    split at aI
    ·rename_i dt du Q7 TC
     split at aI
     ·rename_i el It Xg
      obtain⟨un,hu,_,hf⟩:=(hT t1 dt Q7).under
      rw[It] at hf
      have hf:un = .slice el:=hf
      subst hf
      obtain⟨Tp,Cw,_,SP⟩:=(hT t2 du TC).under
      rw[Xg] at SP
      have SP:Tp = .int .i64:=SP
      subst SP
      split at aI
      ·rename_i de r len sz q nk hx hy
       split at aI
       ·rename_i ps na th
        cases sk:(Nat.beq sz de.size&&Nat.ble 1 sz&&Nat.blt r Γ.n) with
        |false=>simp[sk] at aI
        |true =>
         simp only[sk,cond_true] at aI
         simp only[Bool.and_eq_true] at sk
         have kF:sz=de.size:=Nat.eq_of_beq_eq_true sk.1.1
         have Q8:1≤sz:=Nat.le_of_ble_eq_true sk.1.2
         have My:r<Γ.n:=Nat.le_of_ble_eq_true sk.2
         injection aI with aI;injection aI with h1 h2
         subst h1;subst h2
         obtain⟨g1,cb⟩:=cb.cons
         obtain⟨gl,cb⟩:=cb.cons
         obtain⟨gq,cb⟩:=cb.cons
         obtain⟨g4,cb⟩:=cb.cons
         obtain⟨g5,g6⟩:=cb.cons
         obtain⟨m,rfl⟩:∃m,s8=len+m:=⟨s8-len,by omega⟩
         rw[Nat.add_sub_cancel_left] at gq g4
         have g6:len+m<9223372036854775808:=g6
         subst g4
         obtain⟨i,hi,tg,Mr,z,hz,_,FK,_⟩:=(hT el de nk).info
         obtain⟨z',L4,_,_,Q1⟩:=(hT el de nk).re w
         have Xh:z'=z:=by
          have e1:(zeroValue el).run P w = .ok z w:=by simp[zeroValue,typeInfo,hi,hz]
          rw[e1] at L4
          injection L4 with L4 _
          exact L4.symm
         subst Xh
         have hex:=hr.DN x _ hx
         have G8:Rd I w (.int .i64 q) (a.eval y):=hr.DN y _ hy
         have vT:a.eval y = .int .i64 (m:Int):=by generalize a.eval y=v at G8;cases G8;rw[gq]
         obtain⟨vY,wa⟩:=hex
         have G7:=(hr.aG.1 r _ na).1
         have OM:¬bM Γ.sin r:=fun h=>by have:=hs r h;omega
         have uM:¬bM Γ.sin d:=fun h=>absurd (hs d h) (Nat.not_le_of_lt ti)
         have uN:¬bM (kill r s).aG d:=by unfold bM;rw[th];simp
         obtain⟨us,Cv⟩:∃us,us=(Builtin.zeroCells z'.cells m).toList:=⟨_,rfl⟩
         have sZ:bQ I w ((List.replicate m (jy .none de)).flatten) us:=by
          rw[Cv]
          unfold Builtin.zeroCells
          rw[FK]
          have:=yL ((Q1 I w).jy .none) m (m*de.size) (by rw[FK]) (by omega)
          rwa[FK] at this
         have vV:us.length=m*i.size:=by rw[Cv,Array.length_toList,size_zeroCells,FK,tg]
         have A4:((List.replicate m (jy .none de)).flatten).length=m*sz:=by rw[sZ.1,vV,tg,←kF]
         generalize (List.replicate m (jy .none de)).flatten=qs at *
         have I9:∀v' w',(Builtin.append_ #[t1,t2] o.type #[a.eval x,a.eval y]).run P w = .ok v' w'→Rel Γ ⟨nm (kill r s).env (some d) (.row d 0 (len+m) sz),(d,.pure (ps++qs))::(kill r s).aG⟩ (a.put (some d) v') w'→o.wp P a w K Q:=by
          intro v' w' aq jD
          have lN:=xV jz
          have uH:=xV FU
          obtain⟨cl,args,JA⟩:=c
          simp only at qQ lN uH
          subst qQ;subst lN;subst uH
          unfold Oper.wp execOp
          simp only[s6,resolve,invoke,builtin,Sem.run_bind,Sem.run_pure,Result.andThen_ok,List.map_toArray,List.map_cons,List.map_nil,aq]
          show K (a.put o.dst v') w'
          rw[D8]
          exact hk _ _ jD
         have Jb:0<i.size:=by rw[tg,←kF];exact Q8
         have Rc:m*i.bytes≤281474976710656:=by
          have:(len+m)*i.bytes≤140737488355328:=by rw[Mr];exact g5
          rw[Nat.add_mul] at this
          omega
         have yU:(len+m)*i.bytes≤140737488355328:=by rw[Mr];exact g5
         have Iu:len+m≤maxLen:=by unfold maxLen;omega
         have Ra:∀b,β r=some b→∀x,bM (di r s.aG) x→β x≠some b:=fun b hb x hx e =>
          (ei.1 hx).2 (hr.aG.2 x r b (ei.1 hx).1 vY e hb)
         rcases wa with ⟨NO,D1,AU⟩|⟨b,cap,mS,AU,Mo,W9,nx,Bw,oX⟩
         ·
          subst D1
          have JF:ps=[]:=List.eq_nil_of_length_eq_zero (by simpa using g1)
          subst JF
          rcases(Or.inr trivial:False∨True) with hF|_
          ·exact hF.elim
          ·skip
           rcases Nat.eq_zero_or_pos m with Fv|Fv
           ·subst Fv
            have mG:qs=[]:=List.eq_nil_of_length_eq_zero (by simpa using A4)
            subst mG
            refine I9 _ _ (by rw[AU,vT];exact px hu Cw (hT el de nk) _ none 0 0 (Nat.le_refl _)) ?_
            exact kN hr (ob:=none) ti uM uN (fun b hb=>by cases hb) (.inl ⟨by simp,rfl⟩) (.inl ⟨rfl,rfl,rfl⟩)
           ·have aq:=xW (P:=P) (w:=w) t1 t2 o.type el i z' hu Cw hi hz m us Cv Fv Jb (by omega) (by simp only[Nat.zero_add] at yU;omega)
            refine I9 _ _ (by rw[AU,vT];exact aq) ?_
            have yV:dh Γ s a (w.drew.alloc (.cells (us.toArray++Builtin.zeroCells z'.cells (grownCap w m 0 el-m)) el)) β I :=
             hr.grow (((AY.refl _ _).drew).alloc (Nat.le_refl _) _) (fun b h=>h) (fun b h => .inl h)
            have pn:(w.drew.alloc (.cells (us.toArray++Builtin.zeroCells z'.cells (grownCap w m 0 el-m)) el)).heap[w.heap.size]? = some (.cells (us.toArray++Builtin.zeroCells z'.cells (grownCap w m 0 el-m)) el (0,0)):=heap_alloc_new w.drew _
            have A5:=grownCap_ge w m 0 el
            have nq:∀(j:Nat) p,(([]:List PV)++qs)[j]? = some p→∃u,(us.toArray++Builtin.zeroCells z'.cells (grownCap w m 0 el-m))[j]? = some u∧u.oneCell'=true∧Rd I (w.drew.alloc (.cells (us.toArray++Builtin.zeroCells z'.cells (grownCap w m 0 el-m)) el)) p u:=by
             intro j p hp
             simp only[List.nil_append] at hp
             have hj:j<us.length:=by rw[←sZ.1];exact(List.getElem?_eq_some_iff.1 hp).1
             obtain⟨q1,q2⟩:=sZ.2 j p us[j] hp (List.getElem?_eq_getElem hj)
             refine⟨us[j],by rw[Array.getElem?_append_left (by simpa using hj)];simp[hj],q2.kJ q1,q2.mono (fun _ h=>h) (fun b o hI=>gy (Below.heap_alloc w.drew _ b (hr.ib b hI)) o)⟩
            refine kN yV (ob:=some w.heap.size) ti uM uN (fun b hb => ?_) (rj pn nq (by simp)) (.inr ⟨w.heap.size,grownCap w m 0 el,rfl,by simp,by simpa using A5,el,_,by unfold World.shape?;rw[pn],?_⟩)
            ·injection hb with hb;subst hb
             exact⟨by simp,fun hI=>Nat.lt_irrefl _ (hr.ib _ hI),(.inl hr.aH.size),fun x hx e=>Nat.lt_irrefl _ (hr.lb x _ (ei.1 hx).1 e)⟩
            ·simp only[Array.size_append,List.size_toArray,vV,size_zeroCells,FK,tg,kF]
             rw[←Nat.add_mul]
             have:m+(grownCap w m 0 el-m)=grownCap w m 0 el:=by omega
             rw[this];omega
         ·
          have Fw:Γ.Nw b:=hr.new r b vY (.inl OM) mS
          have Is:=((hr.aG.1 r _ na).2 b mS)
          obtain⟨arr,yT,hg,GY,yK⟩:=tK G7 mS
          have ON:w.shape? b=some (yT,arr.size):=by unfold World.shape?;rw[hg]
          have Cx:nx=arr.size:=by
           rw[ON] at Bw;injection Bw with Bw;injection Bw with h1 h2;exact h2.symm
          subst Cx
          rcases Nat.eq_zero_or_pos m with Fv|Fv
          ·skip
           subst Fv
           have mG:qs=[]:=List.eq_nil_of_length_eq_zero (by simpa using A4)
           subst mG
           refine I9 _ _ (by rw[AU,vT];exact px hu Cw (hT el de nk) _ _ len cap Mo) ?_
           exact kN hr (ob:=some b) ti uM uN (fun b' eN=>by injection eN with eN;subst eN;exact⟨Is.1,Is.2,Fw,Ra b mS⟩)
            (rj hg (fun j p hp=>yK j p (by simpa using hp)) (by simp)) (.inr ⟨b,cap,rfl,rfl,Mo,yT,_,ON,oX⟩)
          ·skip
           have OO:∀u∈us,u.oneCell'=true:=fun u Jz=>by
            obtain⟨j,hj⟩:=List.mem_iff_getElem?.1 Jz
            have L0:j<qs.length:=by rw[sZ.1];exact(List.getElem?_eq_some_iff.1 hj).1
            obtain⟨q1,q2⟩:=sZ.2 j _ u (List.getElem?_eq_getElem L0) hj
            exact q2.kJ q1
           have OP:len*i.size=ps.length:=by rw[tg,←kF];exact g1.symm
           have Tw:cap*sz≤arr.size:=by omega
           by_cases rk:len+m≤cap
           ·have JG:len*i.size+us.length≤arr.size:=by
             have h3:(len+m)*sz≤cap*sz:=Nat.mul_le_mul_right _ rk
             rw[Nat.add_mul] at h3
             rw[vV,tg,←kF];omega
            have aq:=wb (P:=P) (w:=w) hu Cw hi hz o.type b len cap arr hg m us Cv vV OO Fv Jb rk JG (by omega) Rc
            refine I9 _ _ (by rw[AU,vT];exact aq) ?_
            have JH:(arr.toList.take (len*i.size)++us++arr.toList.drop (len*i.size+us.length)).toArray.size=arr.size:=by
             simp;omega
            have s5:∀j,(arr.toList.take (len*i.size)++us++arr.toList.drop (len*i.size+us.length)).toArray[j]? = if len*i.size≤j∧j<len*i.size+us.length then us[j-len*i.size]? else arr[j]? := by
             intro j
             have:=kd arr.toList (len*i.size) us (by simp;omega) j
             unfold ee at this
             rw[←List.append_assoc] at this
             simp only[List.getElem?_toArray]
             rw[this]
             simp only[Array.getElem?_toList]
            have Eb:∀(j:Nat) p,(ps++qs)[j]? = some p→∃u,(arr.toList.take (len*i.size)++us++arr.toList.drop (len*i.size+us.length)).toArray[j]? = some u∧u.oneCell'=true∧Rd I w p u:=by
             intro j p hp
             rw[s5 j]
             rw[List.getElem?_append] at hp
             by_cases hj:j<ps.length
             ·rw[if_pos hj] at hp
              rw[if_neg (by omega)]
              exact yK j p hp
             ·rw[if_neg hj] at hp
              have OQ:=(List.getElem?_eq_some_iff.1 hp).1
              have JI:j-ps.length<us.length:=by rw[←sZ.1];exact OQ
              rw[if_pos (by omega),OP]
              obtain⟨q1,q2⟩:=sZ.2 _ p us[j-ps.length] hp (List.getElem?_eq_getElem JI)
              exact⟨_,List.getElem?_eq_getElem JI,q2.kJ q1,q2⟩
            have Tx:=hr.write (sc' := .pure (ps++qs)) (Nat.lt_of_lt_of_le My Γ.small) na mS hg JH (fun j e' gn=>by
             simp only[SC.qR,List.getElem?_map] at gn
             cases hp:(ps++qs)[j]? with
             |none=>simp[hp] at gn
             |some p =>
              simp[hp] at gn
              subst gn
              exact Eb j p hp)
            have FZ:di r (aS.set s.aG r (.pure (ps++qs)))=di r s.aG:=xd r _ s.aG
            have OR:kill r ⟨s.env,aS.set s.aG r (.pure (ps++qs))⟩=kill r s:=by unfold kill;simp only[FZ]
            have JJ:=kN Tx (r:=r) (d:=d) (len:=len+m) (sz:=sz) (out:=ps++qs) (v := .slice (some ⟨b,0,none⟩) (len+m) cap) (ob:=some b) ti uM (by rw[FZ];exact uN)
             (fun b' eN=>by
              injection eN with eN;subst eN
              rw[FZ]
              exact⟨by simpa[World.setRow] using Is.1,Is.2,Fw,Ra b mS⟩)
             (rj (setRow_heap w b arr _ yT (0,0) hg) (fun j p hp=>by
              obtain⟨u,q1,q2,q3⟩:=Eb j p hp
              exact⟨u,q1,q2,q3.mono (fun _ h=>h) (fun b' o' hI=>gy (setRow_other w b b' _ (fun e=>Is.2 (e ▸ hI))) o')⟩) (by simp))
             (.inr ⟨b,cap,rfl,rfl,rk,yT,arr.size,by rw[qb w b b _ arr yT (0,0) hg JH];exact ON,oX⟩)
            rw[OR] at JJ
            exact JJ
           ·have JK:(arr.toList.take ps.length).length=len*i.size:=by simp;omega
            have holds:∀(j:Nat) v,(arr.toList.take ps.length)[j]? = some v→w.cell? ((⟨b,0,none⟩:Addr).add j)=some v:=by
             intro j v hv
             rw[ia,Nat.zero_add,cell_of_row w b j arr yT (0,0) hg]
             rw[List.getElem?_take] at hv
             split at hv
             ·simpa using hv
             ·cases hv
            have aq:=wc (P:=P) (w:=w) t1 t2 o.type el i z' hu Cw hi hz ⟨b,0,none⟩ len cap (arr.toList.take ps.length) JK holds m us Cv Fv Jb (by omega) (by omega) Rc (growslice_fits (by omega) yU)
            refine I9 _ _ (by rw[AU,vT];exact aq) ?_
            generalize hW:((arr.toList.take ps.length).toArray++us.toArray++Builtin.zeroCells z'.cells (grownCap w (len+m) cap el-(len+m)):Array Value)=narr
            have yV:dh Γ s a (w.drew.alloc (.cells narr el)) β I :=
             hr.grow (((AY.refl _ _).drew).alloc (Nat.le_refl _) _) (fun b h=>h) (fun b h => .inl h)
            have pn:(w.drew.alloc (.cells narr el)).heap[w.heap.size]? = some (.cells narr el (0,0)):=heap_alloc_new w.drew _
            have A5:=grownCap_ge w (len+m) cap el
            have By:∀{p:PV} {u:Value},Rd I w p u→Rd I (w.drew.alloc (.cells narr el)) p u:=fun h=>h.mono (fun _ h=>h) (fun b o hI=>gy (Below.heap_alloc w.drew _ b (hr.ib b hI)) o)
            have nq:∀(j:Nat) p,(ps++qs)[j]? = some p→∃u,narr[j]? = some u∧u.oneCell'=true∧Rd I (w.drew.alloc (.cells narr el)) p u:=by
             intro j p hp
             have xe:(arr.toList.take ps.length).length=ps.length:=by simp;omega
             have JL:narr[j]? = if j<ps.length then arr[j]? else if j<ps.length+us.length then us[j-ps.length]? else (Builtin.zeroCells z'.cells (grownCap w (len+m) cap el-(len+m)))[j-(ps.length+us.length)]? := by
              rw[←hW,Array.getElem?_append,Array.getElem?_append]
              simp only[Array.size_append,List.size_toArray,xe,List.getElem?_toArray]
              by_cases hj:j<ps.length
              ·rw[if_pos (by omega),if_pos hj,if_pos hj,List.getElem?_take,if_pos hj];simp
              ·by_cases Ec:j<ps.length+us.length
               ·rw[if_pos Ec,if_neg hj,if_neg hj,if_pos Ec]
               ·rw[if_neg Ec,if_neg hj,if_neg Ec]
             rw[JL]
             rw[List.getElem?_append] at hp
             by_cases hj:j<ps.length
             ·rw[if_pos hj] at hp ⊢
              obtain⟨u,q1,q2,q3⟩:=yK j p hp
              exact⟨u,q1,q2,By q3⟩
             ·rw[if_neg hj] at hp ⊢
              have OQ:=(List.getElem?_eq_some_iff.1 hp).1
              have JI:j-ps.length<us.length:=by rw[←sZ.1];exact OQ
              rw[if_pos (by omega)]
              obtain⟨q1,q2⟩:=sZ.2 _ p us[j-ps.length] hp (List.getElem?_eq_getElem JI)
              exact⟨_,List.getElem?_eq_getElem JI,q2.kJ q1,By q2⟩
            refine kN yV (ob:=some w.heap.size) ti uM uN (fun b' eN => ?_) (rj pn nq (by simp)) (.inr ⟨w.heap.size,grownCap w (len+m) cap el,rfl,rfl,A5,el,_,by unfold World.shape?;rw[pn],?_⟩)
            ·injection eN with eN;subst eN
             exact⟨by simp,fun hI=>Nat.lt_irrefl _ (hr.ib _ hI),(.inl hr.aH.size),fun x hx e=>Nat.lt_irrefl _ (hr.lb x _ (ei.1 hx).1 e)⟩
            ·rw[←hW]
             simp only[Array.size_append,List.size_toArray,JK,vV,size_zeroCells,FK,tg,kF]
             rw[←Nat.add_mul,←Nat.add_mul]
             have:len+m+(grownCap w (len+m) cap el-(len+m))=grownCap w (len+m) cap el:=by omega
             rw[this];omega
       ·cases aI
      ·cases aI
     ·cases aI
    ·cases aI
  ·cases aI
 ·cases aI
def uQ(T:j0)(n:Nat)(o:Oper)(h:Hint)(s:St):Option (St×List Prop) :=
 match Ha T n o h s with
 |some x=>some x
 |none=>yY T n o h s
theorem rm(hT:mC P T)(hs:∀r,bM Γ.sin r→Γ.n≤r)(hr:Rel Γ s a w)(aI:uQ T Γ.n o h s=some (s',ob))(cb:dA ob){K:Act→World→Prop}{Q:Exit→Act→World→Prop}
  (hk:∀a' w',Rel Γ s' a' w'→K a' w'):o.wp P a w K Q:=by
 unfold uQ at aI
 split at aI
 ·rename_i x hx
  injection aI with aI
  subst aI
  exact A6 hT hs hr hx cb hk
 ·exact yZ hT hs hr aI cb hk
end
end Go.Proofs.YtllmkadmohkbfaaGreatDoor.Sym
