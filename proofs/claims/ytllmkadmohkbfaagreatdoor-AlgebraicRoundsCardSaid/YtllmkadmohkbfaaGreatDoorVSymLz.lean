/- Lemmas for the statements of this seat. -/
import Derived.Test.YtllmkadmohkbfaaGreatDoorVSymL
namespace Go.Proofs.YtllmkadmohkbfaaGreatDoor.Sym
open Go Go.RowKit
set_option linter.unusedVariables false
set_option linter.unusedSimpArgs false
section
variable {P:Program} {T:kL} {Γ:Ctx} {s s':St} {a:Act} {w:World} {β:Nat→Option Nat} {I:Nat→Prop} {o:Oper} {h:Hint} {ob:List Prop}
theorem wy{m:Nat}(h:m<9223372036854775808):IntKind.i64.wrap (m:Int)=m:=by
 have:=IntKind.wrap_i64 (m:Int)
 omega
theorem qT{t t2 e:TypeId}{de:TD}(hu:P.underlying t=some (.slice e))(Fw:P.underlying t2=some (.int .i64))(hd:qN P e de)(ty:TypeId)(ao:Option Addr)(len cap:Nat)(hc:len≤cap) :
  (Builtin.append_ #[t,t2] ty #[.slice ao len cap,.int .i64 ((0:Nat):Int)]).run P w = .ok (.slice ao len cap) w:=by
 obtain⟨i,hi,_,_,Vw⟩:=hd.run_typeInfo w
 have hw:IntKind.i64.wrap (0:Int)=0:=wy (m:=0) (by omega)
 cases ao<;>simp[Builtin.append_,run_underlying hu,run_underlying Fw,hd.run_sizeOf w,hi,Vw,asInt,asIntOf,hw,hc,storeCells]
theorem zL(t t2 ty e:TypeId)(i:TypeInfo)(z:Value)(ht:P.underlying t=some (.slice e))(Fw:P.underlying t2=some (.int .i64))(hi:P.info? e=some i)(hz:i.zero=some z)
  (n:Nat) (us:List Value) (D3:us=(Builtin.zeroCells z.cells n).toList)
  (h0:0<n) (HP:0<i.size) (VL:(n:Int)≤9223372036854775807) (Th:n*i.bytes≤281474976710656) :
  (Builtin.append_ #[t,t2] ty #[.slice none 0 0,.int .i64 (n:Int)]).run P w =
   .ok (.slice (some ⟨w.heap.size,0,none⟩) n (grownCap w n 0 e)) (w.drew.alloc (.cells (us.toArray++Builtin.zeroCells z.cells (grownCap w n 0 e-n)) e)):=by
 subst D3
 have hn:n≠0:=by omega
 have FF:¬(n*i.size=0):=fun h=>by rcases Nat.mul_eq_zero.1 h with h|h<;>omega
 have hw:=wy (m:=n) (by omega)
 have ba:¬((n:Int)<0):=by omega
 have PN:¬(281474976710656<(n:Int)*(i.bytes:Int)):=by
  have Lw:((n*i.bytes:Nat):Int)≤((281474976710656:Nat):Int):=Int.ofNat_le.2 Th
  rw[Int.natCast_mul] at Lw
  have h7:((281474976710656:Nat):Int)=281474976710656:=rfl
  omega
 have QY:¬(9223372036854775807<(n:Int)):=by omega
 have QZ:¬(281474976710656<Builtin.nextslicecap n 0*i.bytes):=by rw[nextslicecap_zero h0];omega
 simp[Builtin.append_,run_underlying ht,run_underlying Fw,sizeOf,typeInfo,zeroValue,hi,hz,asInt,asIntOf,hw,ba,PN,hn,FF,QY,QZ,Question.forced,run_firstCells_none,newRow,grownCap]
theorem xL{t t2 e AQ:TypeId}{i:TypeInfo}{z:Value}(ht:P.underlying t=some (.slice e))(Fw:P.underlying t2=some (.int .i64))(hi:P.info? e=some i)(hz:i.zero=some z)(ty:TypeId)
  (g lJ uI:Nat) (cur:Array Value) (hg:w.heap[g]? = some (.cells cur AQ (0,0)))
  (m:Nat) (us:List Value) (D3:us=(Builtin.zeroCells z.cells m).toList) (hl:us.length=m*i.size) (h1:∀u∈us,u.oneCell'=true) (h0:0<m) (HP:0<i.size)
  (s7:lJ+m≤uI) (rE:lJ*i.size+us.length≤cur.size) (VL:m<9223372036854775808) (Th:m*i.bytes≤281474976710656) :
  (Builtin.append_ #[t,t2] ty #[.slice (some ⟨g,0,none⟩) lJ uI,.int .i64 (m:Int)]).run P w =
   .ok (.slice (some ⟨g,0,none⟩) (lJ+m) uI) (w.setRow g (cur.toList.take (lJ*i.size)++us++cur.toList.drop (lJ*i.size+us.length)).toArray):=by
 have aI:=run_storeCells_at P g (lJ*i.size) AQ us 0 cur w hg (by simpa using rE) h1
 simp only[Nat.add_zero] at aI
 have hn:m≠0:=by omega
 have FF:¬(m*i.size=0):=fun h=>by rcases Nat.mul_eq_zero.1 h with h|h<;>omega
 have hw:=wy VL
 have ba:¬((m:Int)<0):=by omega
 have PN:¬(281474976710656<(m:Int)*(i.bytes:Int)):=by
  have Lw:((m*i.bytes:Nat):Int)≤((281474976710656:Nat):Int):=Int.ofNat_le.2 Th
  rw[Int.natCast_mul] at Lw
  have h7:((281474976710656:Nat):Int)=281474976710656:=rfl
  omega
 subst D3
 simp[Builtin.append_,run_underlying ht,run_underlying Fw,sizeOf,typeInfo,zeroValue,hi,hz,asInt,asIntOf,hw,ba,PN,hn,FF,s7,Addr.add_lit] at aI ⊢
 rw[aI];rfl
theorem xM(t t2 ty e:TypeId)(i:TypeInfo)(z:Value)(ht:P.underlying t=some (.slice e))(Fw:P.underlying t2=some (.int .i64))(hi:P.info? e=some i)(hz:i.zero=some z)
  (b:Addr) (lJ uI:Nat) (OB:List Value) (Ho:OB.length=lJ*i.size) (holds:∀j v,OB[j]? = some v→w.cell? (b.add j)=some v)
  (n:Nat) (us:List Value) (D3:us=(Builtin.zeroCells z.cells n).toList) (h0:0<n) (HP:0<i.size)
  (hg:uI<lJ+n) (VL:((lJ+n:Nat):Int)≤9223372036854775807) (Th:n*i.bytes≤281474976710656) (rE:Builtin.nextslicecap (lJ+n) uI*i.bytes≤281474976710656) :
  (Builtin.append_ #[t,t2] ty #[.slice (some b) lJ uI,.int .i64 (n:Int)]).run P w =
   .ok (.slice (some ⟨w.heap.size,0,none⟩) (lJ+n) (grownCap w (lJ+n) uI e))
    (w.drew.alloc (.cells (OB.toArray++us.toArray++Builtin.zeroCells z.cells (grownCap w (lJ+n) uI e-(lJ+n))) e)):=by
 subst D3
 have hn:¬(lJ+n≤uI):=by omega
 have VM:n≠0:=by omega
 have FF:¬(n*i.size=0):=fun h=>by rcases Nat.mul_eq_zero.1 h with h|h<;>omega
 have hw:=wy (m:=n) (by omega)
 have ba:¬((n:Int)<0):=by omega
 have PN:¬(281474976710656<(n:Int)*(i.bytes:Int)):=by
  have Lw:((n*i.bytes:Nat):Int)≤((281474976710656:Nat):Int):=Int.ofNat_le.2 Th
  rw[Int.natCast_mul] at Lw
  have h7:((281474976710656:Nat):Int)=281474976710656:=rfl
  omega
 have QY:¬(9223372036854775807<((lJ:Int)+(n:Int))):=by omega
 have QZ:¬(281474976710656<Builtin.nextslicecap (lJ+n) uI*i.bytes):=by omega
 have Zp:=run_firstCells_some (P:=P) w.drew i.size lJ b lJ uI OB Ho (by simpa using holds)
 simp[Builtin.append_,run_underlying ht,run_underlying Fw,sizeOf,typeInfo,zeroValue,hi,hz,asInt,asIntOf,hw,ba,PN,hn,VM,FF,QY,QZ,Question.forced,Zp,newRow,grownCap]
 try (congr 2;apply Array.ext';simp[List.append_assoc])
def AV(T:kL)(n:Nat)(o:Oper)(h:Hint)(s:St):Option (St×List Prop) :=
 match o.op,o.dst,h with
 |.call c,some d,.app uJ out=>match c.callee,c.args.toList,c.argTypes.toList with
  |.builtin .append,[x,y],[t1,t2]=>bif Nat.blt d n then
    match T.get t1,T.get t2 with
    |some dt,some du=>match dt.kind,du.kind with
     |.slice el,.int .i64=>match T.get el,dw s.env x,dw s.env y with
      |some de,some (.row r 0 len sz),some (.pv (.int .i64 q))=>match s.aG.get r,(kill r s).aG.get d with
       |some (.pure ps),none=>bif Nat.beq sz de.size&&Nat.ble 1 sz&&Nat.blt r n then
         some (⟨oC (kill r s).env (some d) (.row d 0 uJ sz),(d,.pure out)::(kill r s).aG⟩,
          [ps.length=len*sz,len≤uJ,q=((uJ-len:Nat):Int),ps++(List.replicate (uJ-len) (kf .none de)).flatten=out,uJ*de.bytes≤140737488355328,uJ<9223372036854775808])
        else none
       |_,_=>none
      |_,_,_=>none
     |_,_=>none
    |_,_=>none
   else none
  |_,_,_=>none
 |_,_,_=>none
theorem AW(hT:nM P T)(hs:∀r,bS Γ.sin r→Γ.n≤r)(hr:Rel Γ s a w)(aI:AV T Γ.n o h s=some (s',ob))(cr:dP ob){K:Act→World→Prop}{Q:Exit→Act→World→Prop}
  (hk:∀a' w',Rel Γ s' a' w'→K a' w'):o.wp P a w K Q:=by
 obtain⟨β,I,hr⟩:=hr
 unfold AV at aI
 split at aI
 ·rename_i c d uJ out uH FH
  split at aI
  ·rename_i x y t1 t2 sD kg HH
   cases qO:(Nat.blt d Γ.n) with
   |false=>simp[qO] at aI
   |true =>
    simp only[qO,cond_true] at aI
    have uR:d<Γ.n:=Nat.le_of_ble_eq_true qO
    split at aI
    ·rename_i dt du QN VN
     split at aI
     ·rename_i el Kq Zq
      obtain⟨un,hu,_,hf⟩:=(hT t1 dt QN).under
      rw[Kq] at hf
      have hf:un = .slice el:=hf
      subst hf
      obtain⟨VA,Fw,_,UW⟩:=(hT t2 du VN).under
      rw[Zq] at UW
      have UW:VA = .int .i64:=UW
      subst UW
      split at aI
      ·rename_i de r len sz q oB hx hy
       split at aI
       ·rename_i ps ov uQ
        cases tU:(Nat.beq sz de.size&&Nat.ble 1 sz&&Nat.blt r Γ.n) with
        |false=>simp[tU] at aI
        |true =>
         simp only[tU,cond_true] at aI
         simp only[Bool.and_eq_true] at tU
         have lI:sz=de.size:=Nat.eq_of_beq_eq_true tU.1.1
         have Te:1≤sz:=Nat.le_of_ble_eq_true tU.1.2
         have Oy:r<Γ.n:=Nat.le_of_ble_eq_true tU.2
         injection aI with aI;injection aI with h1 h2
         subst h1;subst h2
         obtain⟨g1,cr⟩:=cr.cons
         obtain⟨gl,cr⟩:=cr.cons
         obtain⟨gq,cr⟩:=cr.cons
         obtain⟨g4,cr⟩:=cr.cons
         obtain⟨g5,g6⟩:=cr.cons
         obtain⟨m,rfl⟩:∃m,uJ=len+m:=⟨uJ-len,by omega⟩
         rw[Nat.add_sub_cancel_left] at gq g4
         have g6:len+m<9223372036854775808:=g6
         subst g4
         obtain⟨i,hi,uP,On,z,hz,_,Hy,_⟩:=(hT el de oB).info
         obtain⟨z',N0,_,_,S8⟩:=(hT el de oB).sW w
         have Zs:z'=z:=by
          have e1:(zeroValue el).run P w = .ok z w:=by simp[zeroValue,typeInfo,hi,hz]
          rw[e1] at N0
          injection N0 with N0 _
          exact N0.symm
         subst Zs
         have hex:=hr.Fg x _ hx
         have I6:Rd I w (.int .i64 q) (a.eval y):=hr.Fg y _ hy
         have xD:a.eval y = .int .i64 (m:Int):=by generalize a.eval y=v at I6;cases I6;rw[gq]
         obtain⟨xG,xK⟩:=hex
         have I5:=(hr.aG.1 r _ ov).1
         have QO:¬bS Γ.sin r:=fun h=>by have:=hs r h;omega
         have wq:¬bS Γ.sin d:=fun h=>absurd (hs d h) (Nat.not_le_of_lt uR)
         have wu:¬bS (kill r s).aG d:=by unfold bS;rw[uQ];simp
         obtain⟨us,D3⟩:∃us,us=(Builtin.zeroCells z'.cells m).toList:=⟨_,rfl⟩
         have uE:bV I w ((List.replicate m (kf .none de)).flatten) us:=by
          rw[D3]
          unfold Builtin.zeroCells
          rw[Hy]
          have:=AI ((S8 I w).kf .none) m (m*de.size) (by rw[Hy]) (by omega)
          rwa[Hy] at this
         have xE:us.length=m*i.size:=by rw[D3,Array.length_toList,size_zeroCells,Hy,uP]
         have Cw:((List.replicate m (kf .none de)).flatten).length=m*sz:=by rw[uE.1,xE,uP,←lI]
         generalize (List.replicate m (kf .none de)).flatten=qs at *
         have Lc:∀v' w',(Builtin.append_ #[t1,t2] o.type #[a.eval x,a.eval y]).run P w = .ok v' w'→Rel Γ ⟨oC (kill r s).env (some d) (.row d 0 (len+m) sz),(d,.pure (ps++qs))::(kill r s).aG⟩ (a.put (some d) v') w'→o.wp P a w K Q:=by
          intro v' w' aq kl
          have mF:=zK kg
          have wh:=zK HH
          obtain⟨cl,args,LA⟩:=c
          simp only at sD mF wh
          subst sD;subst mF;subst wh
          unfold Oper.wp execOp
          simp only[uH,resolve,invoke,builtin,Sem.run_bind,Sem.run_pure,Result.andThen_ok,List.map_toArray,List.map_cons,List.map_nil,aq]
          show K (a.put o.dst v') w'
          rw[FH]
          exact hk _ _ kl
         have HP:0<i.size:=by rw[uP,←lI];exact Te
         have Ti:m*i.bytes≤281474976710656:=by
          have:(len+m)*i.bytes≤140737488355328:=by rw[On];exact g5
          rw[Nat.add_mul] at this
          omega
         have AR:(len+m)*i.bytes≤140737488355328:=by rw[On];exact g5
         have Kr:len+m≤maxLen:=by unfold maxLen;omega
         have Tg:∀b,β r=some b→∀x,bS (dE r s.aG) x→β x≠some b:=fun b hb x hx e =>
          (eR.1 hx).2 (hr.aG.2 x r b (eR.1 hx).1 xG e hb)
         rcases xK with ⟨PI,FA,Cv⟩|⟨b,cap,oe,Cv,Ok,Zk,nx,C4,rE⟩
         ·
          subst FA
          have LG:ps=[]:=List.eq_nil_of_length_eq_zero (by simpa using g1)
          subst LG
          rcases(Or.inr trivial:False∨True) with hF|_
          ·exact hF.elim
          ·skip
           rcases Nat.eq_zero_or_pos m with Hl|Hl
           ·subst Hl
            have nP:qs=[]:=List.eq_nil_of_length_eq_zero (by simpa using Cw)
            subst nP
            refine Lc _ _ (by rw[Cv,xD];exact qT hu Fw (hT el de oB) _ none 0 0 (Nat.le_refl _)) ?_
            exact lQ hr (ob:=none) uR wq wu (fun b hb=>by cases hb) (.inl ⟨by simp,rfl⟩) (.inl ⟨rfl,rfl,rfl⟩)
           ·have aq:=zL (P:=P) (w:=w) t1 t2 o.type el i z' hu Fw hi hz m us D3 Hl HP (by omega) (by simp only[Nat.zero_add] at AR;omega)
            refine Lc _ _ (by rw[Cv,xD];exact aq) ?_
            have AS:dD Γ s a (w.drew.alloc (.cells (us.toArray++Builtin.zeroCells z'.cells (grownCap w m 0 el-m)) el)) β I :=
             hr.grow (((Cy.refl _ _).drew).alloc (Nat.le_refl _) _) (fun b h=>h) (fun b h => .inl h)
            have qQ:(w.drew.alloc (.cells (us.toArray++Builtin.zeroCells z'.cells (grownCap w m 0 el-m)) el)).heap[w.heap.size]? = some (.cells (us.toArray++Builtin.zeroCells z'.cells (grownCap w m 0 el-m)) el (0,0)):=heap_alloc_new w.drew _
            have CD:=grownCap_ge w m 0 el
            have oE:∀(j:Nat) p,(([]:List PV)++qs)[j]? = some p→∃u,(us.toArray++Builtin.zeroCells z'.cells (grownCap w m 0 el-m))[j]? = some u∧u.oneCell'=true∧Rd I (w.drew.alloc (.cells (us.toArray++Builtin.zeroCells z'.cells (grownCap w m 0 el-m)) el)) p u:=by
             intro j p hp
             simp only[List.nil_append] at hp
             have hj:j<us.length:=by rw[←uE.1];exact(List.getElem?_eq_some_iff.1 hp).1
             obtain⟨q1,q2⟩:=uE.2 j p us[j] hp (List.getElem?_eq_getElem hj)
             refine⟨us[j],by rw[Array.getElem?_append_left (by simpa using hj)];simp[hj],q2.lM q1,q2.mono (fun _ h=>h) (fun b o hI=>ig (Below.heap_alloc w.drew _ b (hr.ib b hI)) o)⟩
            refine lQ AS (ob:=some w.heap.size) uR wq wu (fun b hb => ?_) (s6 qQ oE (by simp)) (.inr ⟨w.heap.size,grownCap w m 0 el,rfl,by simp,by simpa using CD,el,_,by unfold World.shape?;rw[qQ],?_⟩)
            ·injection hb with hb;subst hb
             exact⟨by simp,fun hI=>Nat.lt_irrefl _ (hr.ib _ hI),(.inl hr.aF.size),fun x hx e=>Nat.lt_irrefl _ (hr.lb x _ (eR.1 hx).1 e)⟩
            ·simp only[Array.size_append,List.size_toArray,xE,size_zeroCells,Hy,uP,lI]
             rw[←Nat.add_mul]
             have:m+(grownCap w m 0 el-m)=grownCap w m 0 el:=by omega
             rw[this];omega
         ·
          have Hm:Γ.Nw b:=hr.new r b xG (.inl QO) oe
          have Kp:=((hr.aG.1 r _ ov).2 b oe)
          obtain⟨arr,AQ,hg,I1,AH⟩:=vi I5 oe
          have QP:w.shape? b=some (AQ,arr.size):=by unfold World.shape?;rw[hg]
          have D4:nx=arr.size:=by
           rw[QP] at C4;injection C4 with C4;injection C4 with h1 h2;exact h2.symm
          subst D4
          rcases Nat.eq_zero_or_pos m with Hl|Hl
          ·skip
           subst Hl
           have nP:qs=[]:=List.eq_nil_of_length_eq_zero (by simpa using Cw)
           subst nP
           refine Lc _ _ (by rw[Cv,xD];exact qT hu Fw (hT el de oB) _ _ len cap Ok) ?_
           exact lQ hr (ob:=some b) uR wq wu (fun b' fz=>by injection fz with fz;subst fz;exact⟨Kp.1,Kp.2,Hm,Tg b oe⟩)
            (s6 hg (fun j p hp=>AH j p (by simpa using hp)) (by simp)) (.inr ⟨b,cap,rfl,rfl,Ok,AQ,_,QP,rE⟩)
          ·skip
           have QQ:∀u∈us,u.oneCell'=true:=fun u Lz=>by
            obtain⟨j,hj⟩:=List.mem_iff_getElem?.1 Lz
            have NZ:j<qs.length:=by rw[uE.1];exact(List.getElem?_eq_some_iff.1 hj).1
            obtain⟨q1,q2⟩:=uE.2 j _ u (List.getElem?_eq_getElem NZ) hj
            exact q2.lM q1
           have QS:len*i.size=ps.length:=by rw[uP,←lI];exact g1.symm
           have VH:cap*sz≤arr.size:=by omega
           by_cases s7:len+m≤cap
           ·have LH:len*i.size+us.length≤arr.size:=by
             have h3:(len+m)*sz≤cap*sz:=Nat.mul_le_mul_right _ s7
             rw[Nat.add_mul] at h3
             rw[xE,uP,←lI];omega
            have aq:=xL (P:=P) (w:=w) hu Fw hi hz o.type b len cap arr hg m us D3 xE QQ Hl HP s7 LH (by omega) Ti
            refine Lc _ _ (by rw[Cv,xD];exact aq) ?_
            have LI:(arr.toList.take (len*i.size)++us++arr.toList.drop (len*i.size+us.length)).toArray.size=arr.size:=by
             simp;omega
            have uG:∀j,(arr.toList.take (len*i.size)++us++arr.toList.drop (len*i.size+us.length)).toArray[j]? = if len*i.size≤j∧j<len*i.size+us.length then us[j-len*i.size]? else arr[j]? := by
             intro j
             have:=kQ arr.toList (len*i.size) us (by simp;omega) j
             unfold fk at this
             rw[←List.append_assoc] at this
             simp only[List.getElem?_toArray]
             rw[this]
             simp only[Array.getElem?_toList]
            have FK:∀(j:Nat) p,(ps++qs)[j]? = some p→∃u,(arr.toList.take (len*i.size)++us++arr.toList.drop (len*i.size+us.length)).toArray[j]? = some u∧u.oneCell'=true∧Rd I w p u:=by
             intro j p hp
             rw[uG j]
             rw[List.getElem?_append] at hp
             by_cases hj:j<ps.length
             ·rw[if_pos hj] at hp
              rw[if_neg (by omega)]
              exact AH j p hp
             ·rw[if_neg hj] at hp
              have QT:=(List.getElem?_eq_some_iff.1 hp).1
              have LJ:j-ps.length<us.length:=by rw[←uE.1];exact QT
              rw[if_pos (by omega),QS]
              obtain⟨q1,q2⟩:=uE.2 _ p us[j-ps.length] hp (List.getElem?_eq_getElem LJ)
              exact⟨_,List.getElem?_eq_getElem LJ,q2.lM q1,q2⟩
            have VI:=hr.write (sc' := .pure (ps++qs)) (Nat.lt_of_lt_of_le Oy Γ.small) ov oe hg LI (fun j e' hO=>by
             simp only[SC.sE,List.getElem?_map] at hO
             cases hp:(ps++qs)[j]? with
             |none=>simp[hp] at hO
             |some p =>
              simp[hp] at hO
              subst hO
              exact FK j p hp)
            have HM:dE r (aS.set s.aG r (.pure (ps++qs)))=dE r s.aG:=yH r _ s.aG
            have QU:kill r ⟨s.env,aS.set s.aG r (.pure (ps++qs))⟩=kill r s:=by unfold kill;simp only[HM]
            have LK:=lQ VI (r:=r) (d:=d) (len:=len+m) (sz:=sz) (out:=ps++qs) (v := .slice (some ⟨b,0,none⟩) (len+m) cap) (ob:=some b) uR wq (by rw[HM];exact wu)
             (fun b' fz=>by
              injection fz with fz;subst fz
              rw[HM]
              exact⟨by simpa[World.setRow] using Kp.1,Kp.2,Hm,Tg b oe⟩)
             (s6 (setRow_heap w b arr _ AQ (0,0) hg) (fun j p hp=>by
              obtain⟨u,q1,q2,q3⟩:=FK j p hp
              exact⟨u,q1,q2,q3.mono (fun _ h=>h) (fun b' o' hI=>ig (setRow_other w b b' _ (fun e=>Kp.2 (e ▸ hI))) o')⟩) (by simp))
             (.inr ⟨b,cap,rfl,rfl,s7,AQ,arr.size,by rw[rI w b b _ arr AQ (0,0) hg LI];exact QP,rE⟩)
            rw[QU] at LK
            exact LK
           ·have LL:(arr.toList.take ps.length).length=len*i.size:=by simp;omega
            have holds:∀(j:Nat) v,(arr.toList.take ps.length)[j]? = some v→w.cell? ((⟨b,0,none⟩:Addr).add j)=some v:=by
             intro j v hv
             rw[iZ,Nat.zero_add,cell_of_row w b j arr AQ (0,0) hg]
             rw[List.getElem?_take] at hv
             split at hv
             ·simpa using hv
             ·cases hv
            have aq:=xM (P:=P) (w:=w) t1 t2 o.type el i z' hu Fw hi hz ⟨b,0,none⟩ len cap (arr.toList.take ps.length) LL holds m us D3 Hl HP (by omega) (by omega) Ti (growslice_fits (by omega) AR)
            refine Lc _ _ (by rw[Cv,xD];exact aq) ?_
            generalize hW:((arr.toList.take ps.length).toArray++us.toArray++Builtin.zeroCells z'.cells (grownCap w (len+m) cap el-(len+m)):Array Value)=narr
            have AS:dD Γ s a (w.drew.alloc (.cells narr el)) β I :=
             hr.grow (((Cy.refl _ _).drew).alloc (Nat.le_refl _) _) (fun b h=>h) (fun b h => .inl h)
            have qQ:(w.drew.alloc (.cells narr el)).heap[w.heap.size]? = some (.cells narr el (0,0)):=heap_alloc_new w.drew _
            have CD:=grownCap_ge w (len+m) cap el
            have C6:∀{p:PV} {u:Value},Rd I w p u→Rd I (w.drew.alloc (.cells narr el)) p u:=fun h=>h.mono (fun _ h=>h) (fun b o hI=>ig (Below.heap_alloc w.drew _ b (hr.ib b hI)) o)
            have oE:∀(j:Nat) p,(ps++qs)[j]? = some p→∃u,narr[j]? = some u∧u.oneCell'=true∧Rd I (w.drew.alloc (.cells narr el)) p u:=by
             intro j p hp
             have yI:(arr.toList.take ps.length).length=ps.length:=by simp;omega
             have LM:narr[j]? = if j<ps.length then arr[j]? else if j<ps.length+us.length then us[j-ps.length]? else (Builtin.zeroCells z'.cells (grownCap w (len+m) cap el-(len+m)))[j-(ps.length+us.length)]? := by
              rw[←hW,Array.getElem?_append,Array.getElem?_append]
              simp only[Array.size_append,List.size_toArray,yI,List.getElem?_toArray]
              by_cases hj:j<ps.length
              ·rw[if_pos (by omega),if_pos hj,if_pos hj,List.getElem?_take,if_pos hj];simp
              ·by_cases FL:j<ps.length+us.length
               ·rw[if_pos FL,if_neg hj,if_neg hj,if_pos FL]
               ·rw[if_neg FL,if_neg hj,if_neg FL]
             rw[LM]
             rw[List.getElem?_append] at hp
             by_cases hj:j<ps.length
             ·rw[if_pos hj] at hp ⊢
              obtain⟨u,q1,q2,q3⟩:=AH j p hp
              exact⟨u,q1,q2,C6 q3⟩
             ·rw[if_neg hj] at hp ⊢
              have QT:=(List.getElem?_eq_some_iff.1 hp).1
              have LJ:j-ps.length<us.length:=by rw[←uE.1];exact QT
              rw[if_pos (by omega)]
              obtain⟨q1,q2⟩:=uE.2 _ p us[j-ps.length] hp (List.getElem?_eq_getElem LJ)
              exact⟨_,List.getElem?_eq_getElem LJ,q2.lM q1,C6 q2⟩
            refine lQ AS (ob:=some w.heap.size) uR wq wu (fun b' fz => ?_) (s6 qQ oE (by simp)) (.inr ⟨w.heap.size,grownCap w (len+m) cap el,rfl,rfl,CD,el,_,by unfold World.shape?;rw[qQ],?_⟩)
            ·injection fz with fz;subst fz
             exact⟨by simp,fun hI=>Nat.lt_irrefl _ (hr.ib _ hI),(.inl hr.aF.size),fun x hx e=>Nat.lt_irrefl _ (hr.lb x _ (eR.1 hx).1 e)⟩
            ·rw[←hW]
             simp only[Array.size_append,List.size_toArray,LL,xE,size_zeroCells,Hy,uP,lI]
             rw[←Nat.add_mul,←Nat.add_mul]
             have:len+m+(grownCap w (len+m) cap el-(len+m))=grownCap w (len+m) cap el:=by omega
             rw[this];omega
       ·cases aI
      ·cases aI
     ·cases aI
    ·cases aI
  ·cases aI
 ·cases aI
def wz(T:kL)(n:Nat)(o:Oper)(h:Hint)(s:St):Option (St×List Prop) :=
 match I8 T n o h s with
 |some x=>some x
 |none=>AV T n o h s
theorem s9(hT:nM P T)(hs:∀r,bS Γ.sin r→Γ.n≤r)(hr:Rel Γ s a w)(aI:wz T Γ.n o h s=some (s',ob))(cr:dP ob){K:Act→World→Prop}{Q:Exit→Act→World→Prop}
  (hk:∀a' w',Rel Γ s' a' w'→K a' w'):o.wp P a w K Q:=by
 unfold wz at aI
 split at aI
 ·rename_i x hx
  injection aI with aI
  subst aI
  exact CE hT hs hr hx cr hk
 ·exact AW hT hs hr aI cr hk
end
end Go.Proofs.YtllmkadmohkbfaaGreatDoor.Sym
