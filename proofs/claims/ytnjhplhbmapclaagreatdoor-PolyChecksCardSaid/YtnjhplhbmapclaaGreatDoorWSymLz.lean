/- Lemmas for the statements of this seat. -/
import Derived.Test.YtnjhplhbmapclaaGreatDoorWSymL
namespace Go.Proofs.YtnjhplhbmapclaaGreatDoor.Sym
open Go Go.RowKit
set_option linter.unusedVariables false
set_option linter.unusedSimpArgs false
section
variable {P:Program} {T:gi} {Γ:Ctx} {s s':St} {a:Act} {w:World} {β:Nat→Option Nat} {I:Nat→Prop} {o:Oper} {h:Hint} {ob:List Prop}
theorem px{m:Nat}(h:m<9223372036854775808):IntKind.i64.wrap (m:Int)=m:=by
 have:=IntKind.wrap_i64 (m:Int)
 omega
theorem lj{t t2 e:TypeId}{de:TD}(hu:P.underlying t=some (.slice e))(xn:P.underlying t2=some (.int .i64))(hd:ko P e de)(ty:TypeId)(ao:Option Addr)(len cap:Nat)(hc:len≤cap) :
  (Builtin.append_ #[t,t2] ty #[.slice ao len cap,.int .i64 ((0:Nat):Int)]).run P w = .ok (.slice ao len cap) w:=by
 obtain⟨i,hi,_,_,Ks⟩:=hd.run_typeInfo w
 have hw:IntKind.i64.wrap (0:Int)=0:=px (m:=0) (by omega)
 cases ao<;>simp[Builtin.append_,run_underlying hu,run_underlying xn,hd.run_sizeOf w,hi,Ks,asInt,asIntOf,hw,hc,storeCells]
theorem r7(t t2 ty e:TypeId)(i:TypeInfo)(z:Value)(ht:P.underlying t=some (.slice e))(xn:P.underlying t2=some (.int .i64))(hi:P.info? e=some i)(hz:i.zero=some z)
  (n:Nat) (us:List Value) (uH:us=(Builtin.zeroCells z.cells n).toList)
  (h0:0<n) (Cb:0<i.size) (KI:(n:Int)≤9223372036854775807) (IQ:n*i.bytes≤281474976710656) :
  (Builtin.append_ #[t,t2] ty #[.slice none 0 0,.int .i64 (n:Int)]).run P w =
   .ok (.slice (some ⟨w.heap.size,0,none⟩) n (grownCap w n 0 e)) (w.drew.alloc (.cells (us.toArray++Builtin.zeroCells z.cells (grownCap w n 0 e-n)) e)):=by
 subst uH
 have hn:n≠0:=by omega
 have xz:¬(n*i.size=0):=fun h=>by rcases Nat.mul_eq_zero.1 h with h|h<;>omega
 have hw:=px (m:=n) (by omega)
 have cS:¬((n:Int)<0):=by omega
 have F0:¬(281474976710656<(n:Int)*(i.bytes:Int)):=by
  have CA:((n*i.bytes:Nat):Int)≤((281474976710656:Nat):Int):=Int.ofNat_le.2 IQ
  rw[Int.natCast_mul] at CA
  have h7:((281474976710656:Nat):Int)=281474976710656:=rfl
  omega
 have GZ:¬(9223372036854775807<(n:Int)):=by omega
 have G0:¬(281474976710656<Builtin.nextslicecap n 0*i.bytes):=by rw[nextslicecap_zero h0];omega
 simp[Builtin.append_,run_underlying ht,run_underlying xn,sizeOf,typeInfo,zeroValue,hi,hz,asInt,asIntOf,hw,cS,F0,hn,xz,GZ,G0,Question.forced,run_firstCells_none,newRow,grownCap]
theorem qD{t t2 e s9:TypeId}{i:TypeInfo}{z:Value}(ht:P.underlying t=some (.slice e))(xn:P.underlying t2=some (.int .i64))(hi:P.info? e=some i)(hz:i.zero=some z)(ty:TypeId)
  (g gM n5:Nat) (cur:Array Value) (hg:w.heap[g]? = some (.cells cur s9 (0,0)))
  (m:Nat) (us:List Value) (uH:us=(Builtin.zeroCells z.cells m).toList) (hl:us.length=m*i.size) (h1:∀u∈us,u.oneCell'=true) (h0:0<m) (Cb:0<i.size)
  (mQ:gM+m≤n5) (jl:gM*i.size+us.length≤cur.size) (KI:m<9223372036854775808) (IQ:m*i.bytes≤281474976710656) :
  (Builtin.append_ #[t,t2] ty #[.slice (some ⟨g,0,none⟩) gM n5,.int .i64 (m:Int)]).run P w =
   .ok (.slice (some ⟨g,0,none⟩) (gM+m) n5) (w.setRow g (cur.toList.take (gM*i.size)++us++cur.toList.drop (gM*i.size+us.length)).toArray):=by
 have ay:=run_storeCells_at P g (gM*i.size) s9 us 0 cur w hg (by simpa using jl) h1
 simp only[Nat.add_zero] at ay
 have hn:m≠0:=by omega
 have xz:¬(m*i.size=0):=fun h=>by rcases Nat.mul_eq_zero.1 h with h|h<;>omega
 have hw:=px KI
 have cS:¬((m:Int)<0):=by omega
 have F0:¬(281474976710656<(m:Int)*(i.bytes:Int)):=by
  have CA:((m*i.bytes:Nat):Int)≤((281474976710656:Nat):Int):=Int.ofNat_le.2 IQ
  rw[Int.natCast_mul] at CA
  have h7:((281474976710656:Nat):Int)=281474976710656:=rfl
  omega
 subst uH
 simp[Builtin.append_,run_underlying ht,run_underlying xn,sizeOf,typeInfo,zeroValue,hi,hz,asInt,asIntOf,hw,cS,F0,hn,xz,mQ,Addr.add_lit] at ay ⊢
 rw[ay];rfl
theorem qE(t t2 ty e:TypeId)(i:TypeInfo)(z:Value)(ht:P.underlying t=some (.slice e))(xn:P.underlying t2=some (.int .i64))(hi:P.info? e=some i)(hz:i.zero=some z)
  (b:Addr) (gM n5:Nat) (EY:List Value) (CT:EY.length=gM*i.size) (holds:∀j v,EY[j]? = some v→w.cell? (b.add j)=some v)
  (n:Nat) (us:List Value) (uH:us=(Builtin.zeroCells z.cells n).toList) (h0:0<n) (Cb:0<i.size)
  (hg:n5<gM+n) (KI:((gM+n:Nat):Int)≤9223372036854775807) (IQ:n*i.bytes≤281474976710656) (jl:Builtin.nextslicecap (gM+n) n5*i.bytes≤281474976710656) :
  (Builtin.append_ #[t,t2] ty #[.slice (some b) gM n5,.int .i64 (n:Int)]).run P w =
   .ok (.slice (some ⟨w.heap.size,0,none⟩) (gM+n) (grownCap w (gM+n) n5 e))
    (w.drew.alloc (.cells (EY.toArray++us.toArray++Builtin.zeroCells z.cells (grownCap w (gM+n) n5 e-(gM+n))) e)):=by
 subst uH
 have hn:¬(gM+n≤n5):=by omega
 have NL:n≠0:=by omega
 have xz:¬(n*i.size=0):=fun h=>by rcases Nat.mul_eq_zero.1 h with h|h<;>omega
 have hw:=px (m:=n) (by omega)
 have cS:¬((n:Int)<0):=by omega
 have F0:¬(281474976710656<(n:Int)*(i.bytes:Int)):=by
  have CA:((n*i.bytes:Nat):Int)≤((281474976710656:Nat):Int):=Int.ofNat_le.2 IQ
  rw[Int.natCast_mul] at CA
  have h7:((281474976710656:Nat):Int)=281474976710656:=rfl
  omega
 have GZ:¬(9223372036854775807<((gM:Int)+(n:Int))):=by omega
 have G0:¬(281474976710656<Builtin.nextslicecap (gM+n) n5*i.bytes):=by omega
 have JU:=run_firstCells_some (P:=P) w.drew i.size gM b gM n5 EY CT (by simpa using holds)
 simp[Builtin.append_,run_underlying ht,run_underlying xn,sizeOf,typeInfo,zeroValue,hi,hz,asInt,asIntOf,hw,cS,F0,hn,NL,xz,GZ,G0,Question.forced,JU,newRow,grownCap]
 try (congr 2;apply Array.ext';simp[List.append_assoc])
def tg(T:gi)(n:Nat)(o:Oper)(h:Hint)(s:St):Option (St×List Prop) :=
 match o.op,o.dst,h with
 |.call c,some d,.app n6 out=>match c.callee,c.args.toList,c.argTypes.toList with
  |.builtin .append,[x,y],[t1,t2]=>bif Nat.blt d n then
    match T.get t1,T.get t2 with
    |some dt,some du=>match dt.kind,du.kind with
     |.slice el,.int .i64=>match T.get el,bL s.env x,bL s.env y with
      |some de,some (.row r 0 len sz),some (.pv (.int .i64 q))=>match s.aw.get r,(kill r s).aw.get d with
       |some (.pure ps),none=>bif Nat.beq sz de.size&&Nat.ble 1 sz&&Nat.blt r n then
         some (⟨jU (kill r s).env (some d) (.row d 0 n6 sz),(d,.pure out)::(kill r s).aw⟩,
          [ps.length=len*sz,len≤n6,q=((n6-len:Nat):Int),ps++(List.replicate (n6-len) (eE .none de)).flatten=out,n6*de.bytes≤140737488355328,n6<9223372036854775808])
        else none
       |_,_=>none
      |_,_,_=>none
     |_,_=>none
    |_,_=>none
   else none
  |_,_,_=>none
 |_,_,_=>none
theorem th(hT:jh P T)(hs:∀r,aT Γ.sin r→Γ.n≤r)(hr:Rel Γ s a w)(ay:tg T Γ.n o h s=some (s',ob))(bj:bV ob){K:Act→World→Prop}{Q:Exit→Act→World→Prop}
  (hk:∀a' w',Rel Γ s' a' w'→K a' w'):o.wp P a w K Q:=by
 obtain⟨β,I,hr⟩:=hr
 unfold tg at ay
 split at ay
 ·rename_i c d n6 out nZ xC
  split at ay
  ·rename_i x y t1 t2 lF fM yW
   cases so:(Nat.blt d Γ.n) with
   |false=>simp[so] at ay
   |true =>
    simp only[so,cond_true] at ay
    have oc:d<Γ.n:=Nat.le_of_ble_eq_true so
    split at ay
    ·rename_i dt du IL NM
     split at ay
     ·rename_i el CH KJ
      obtain⟨un,hu,_,hf⟩:=(hT t1 dt IL).under
      rw[CH] at hf
      have hf:un = .slice el:=hf
      subst hf
      obtain⟨Kx,xn,_,J2⟩:=(hT t2 du NM).under
      rw[KJ] at J2
      have J2:Kx = .int .i64:=J2
      subst J2
      split at ay
      ·rename_i de r len sz q kp hx hy
       split at ay
       ·rename_i ps jG oa
        cases mJ:(Nat.beq sz de.size&&Nat.ble 1 sz&&Nat.blt r Γ.n) with
        |false=>simp[mJ] at ay
        |true =>
         simp only[mJ,cond_true] at ay
         simp only[Bool.and_eq_true] at mJ
         have gn:sz=de.size:=Nat.eq_of_beq_eq_true mJ.1.1
         have IM:1≤sz:=Nat.le_of_ble_eq_true mJ.1.2
         have ES:r<Γ.n:=Nat.le_of_ble_eq_true mJ.2
         injection ay with ay;injection ay with h1 h2
         subst h1;subst h2
         obtain⟨g1,bj⟩:=bj.cons
         obtain⟨gl,bj⟩:=bj.cons
         obtain⟨gq,bj⟩:=bj.cons
         obtain⟨g4,bj⟩:=bj.cons
         obtain⟨g5,g6⟩:=bj.cons
         obtain⟨m,rfl⟩:∃m,n6=len+m:=⟨n6-len,by omega⟩
         rw[Nat.add_sub_cancel_left] at gq g4
         have g6:len+m<9223372036854775808:=g6
         subst g4
         obtain⟨i,hi,vd,Iq,z,hz,_,xh,_⟩:=(hT el de kp).info
         obtain⟨z',Ep,_,_,En⟩:=(hT el de kp).lf w
         have NN:z'=z:=by
          have e1:(zeroValue el).run P w = .ok z w:=by simp[zeroValue,typeInfo,hi,hz]
          rw[e1] at Ep
          injection Ep with Ep _
          exact Ep.symm
         subst NN
         have hex:=hr.xb x _ hx
         have Aw:Rd I w (.int .i64 q) (a.eval y):=hr.xb y _ hy
         have qw:a.eval y = .int .i64 (m:Int):=by generalize a.eval y=v at Aw;cases Aw;rw[gq]
         obtain⟨r6,qC⟩:=hex
         have Av:=(hr.aw.1 r _ jG).1
         have GN:¬aT Γ.sin r:=fun h=>by have:=hs r h;omega
         have po:¬aT Γ.sin d:=fun h=>absurd (hs d h) (Nat.not_le_of_lt oc)
         have pr:¬aT (kill r s).aw d:=by unfold aT;rw[oa];simp
         obtain⟨us,uH⟩:∃us,us=(Builtin.zeroCells z'.cells m).toList:=⟨_,rfl⟩
         have ox:aV I w ((List.replicate m (eE .none de)).flatten) us:=by
          rw[uH]
          unfold Builtin.zeroCells
          rw[xh]
          have:=sW ((En I w).eE .none) m (m*de.size) (by rw[xh]) (by omega)
          rwa[xh] at this
         have qx:us.length=m*i.size:=by rw[uH,Array.length_toList,size_zeroCells,xh,vd]
         have xc:((List.replicate m (eE .none de)).flatten).length=m*sz:=by rw[ox.1,qx,vd,←gn]
         generalize (List.replicate m (eE .none de)).flatten=qs at *
         have B9:∀v' w',(Builtin.append_ #[t1,t2] o.type #[a.eval x,a.eval y]).run P w = .ok v' w'→Rel Γ ⟨jU (kill r s).env (some d) (.row d 0 (len+m) sz),(d,.pure (ps++qs))::(kill r s).aw⟩ (a.put (some d) v') w'→o.wp P a w K Q:=by
          intro v' w' ai fR
          have iw:=r5 fM
          have pg:=r5 yW
          obtain⟨cl,args,CD⟩:=c
          simp only at lF iw pg
          subst lF;subst iw;subst pg
          unfold Oper.wp execOp
          simp only[nZ,resolve,invoke,builtin,Sem.run_bind,Sem.run_pure,Result.andThen_ok,List.map_toArray,List.map_cons,List.map_nil,ai]
          show K (a.put o.dst v') w'
          rw[xC]
          exact hk _ _ fR
         have Cb:0<i.size:=by rw[vd,←gn];exact IM
         have IS:m*i.bytes≤281474976710656:=by
          have:(len+m)*i.bytes≤140737488355328:=by rw[Iq];exact g5
          rw[Nat.add_mul] at this
          omega
         have ta:(len+m)*i.bytes≤140737488355328:=by rw[Iq];exact g5
         have ET:len+m≤maxLen:=by unfold maxLen;omega
         have IP:∀b,β r=some b→∀x,aT (bQ r s.aw) x→β x≠some b:=fun b hb x hx e =>
          (cC.1 hx).2 (hr.aw.2 x r b (cC.1 hx).1 r6 e hb)
         rcases qC with ⟨FX,xr,uD⟩|⟨b,cap,jw,uD,EJ,ND,nx,vc,jl⟩
         ·
          subst xr
          have CK:ps=[]:=List.eq_nil_of_length_eq_zero (by simpa using g1)
          subst CK
          rcases(Or.inr trivial:False∨True) with hF|_
          ·exact hF.elim
          ·skip
           rcases Nat.eq_zero_or_pos m with yF|yF
           ·subst yF
            have kX:qs=[]:=List.eq_nil_of_length_eq_zero (by simpa using xc)
            subst kX
            refine B9 _ _ (by rw[uD,qw];exact lj hu xn (hT el de kp) _ none 0 0 (Nat.le_refl _)) ?_
            exact gU hr (ob:=none) oc po pr (fun b hb=>by cases hb) (.inl ⟨by simp,rfl⟩) (.inl ⟨rfl,rfl,rfl⟩)
           ·have ai:=r7 (P:=P) (w:=w) t1 t2 o.type el i z' hu xn hi hz m us uH yF Cb (by omega) (by simp only[Nat.zero_add] at ta;omega)
            refine B9 _ _ (by rw[uD,qw];exact ai) ?_
            have tc:bK Γ s a (w.drew.alloc (.cells (us.toArray++Builtin.zeroCells z'.cells (grownCap w m 0 el-m)) el)) β I :=
             hr.grow (((uE.refl _ _).drew).alloc (Nat.le_refl _) _) (fun b h=>h) (fun b h => .inl h)
            have ji:(w.drew.alloc (.cells (us.toArray++Builtin.zeroCells z'.cells (grownCap w m 0 el-m)) el)).heap[w.heap.size]? = some (.cells (us.toArray++Builtin.zeroCells z'.cells (grownCap w m 0 el-m)) el (0,0)):=heap_alloc_new w.drew _
            have uM:=grownCap_ge w m 0 el
            have jW:∀(j:Nat) p,(([]:List PV)++qs)[j]? = some p→∃u,(us.toArray++Builtin.zeroCells z'.cells (grownCap w m 0 el-m))[j]? = some u∧u.oneCell'=true∧Rd I (w.drew.alloc (.cells (us.toArray++Builtin.zeroCells z'.cells (grownCap w m 0 el-m)) el)) p u:=by
             intro j p hp
             simp only[List.nil_append] at hp
             have hj:j<us.length:=by rw[←ox.1];exact(List.getElem?_eq_some_iff.1 hp).1
             obtain⟨q1,q2⟩:=ox.2 j p us[j] hp (List.getElem?_eq_getElem hj)
             refine⟨us[j],by rw[Array.getElem?_append_left (by simpa using hj)];simp[hj],q2.fw q1,q2.mono (fun _ h=>h) (fun b o hI=>dS (Below.heap_alloc w.drew _ b (hr.ib b hI)) o)⟩
            refine gU tc (ob:=some w.heap.size) oc po pr (fun b hb => ?_) (mP ji jW (by simp)) (.inr ⟨w.heap.size,grownCap w m 0 el,rfl,by simp,by simpa using uM,el,_,by unfold World.shape?;rw[ji],?_⟩)
            ·injection hb with hb;subst hb
             exact⟨by simp,fun hI=>Nat.lt_irrefl _ (hr.ib _ hI),(.inl hr.aB.size),fun x hx e=>Nat.lt_irrefl _ (hr.lb x _ (cC.1 hx).1 e)⟩
            ·simp only[Array.size_append,List.size_toArray,qx,size_zeroCells,xh,vd,gn]
             rw[←Nat.add_mul]
             have:m+(grownCap w m 0 el-m)=grownCap w m 0 el:=by omega
             rw[this];omega
         ·
          have GO:Γ.Nw b:=hr.new r b r6 (.inl GN) jw
          have Bs:=((hr.aw.1 r _ jG).2 b jw)
          obtain⟨arr,s9,hg,B3,rX⟩:=oy Av jw
          have GP:w.shape? b=some (s9,arr.size):=by unfold World.shape?;rw[hg]
          have vZ:nx=arr.size:=by
           rw[GP] at vc;injection vc with vc;injection vc with h1 h2;exact h2.symm
          subst vZ
          rcases Nat.eq_zero_or_pos m with yF|yF
          ·skip
           subst yF
           have kX:qs=[]:=List.eq_nil_of_length_eq_zero (by simpa using xc)
           subst kX
           refine B9 _ _ (by rw[uD,qw];exact lj hu xn (hT el de kp) _ _ len cap EJ) ?_
           exact gU hr (ob:=some b) oc po pr (fun b' cQ=>by injection cQ with cQ;subst cQ;exact⟨Bs.1,Bs.2,GO,IP b jw⟩)
            (mP hg (fun j p hp=>rX j p (by simpa using hp)) (by simp)) (.inr ⟨b,cap,rfl,rfl,EJ,s9,_,GP,jl⟩)
          ·skip
           have GQ:∀u∈us,u.oneCell'=true:=fun u yM=>by
            obtain⟨j,hj⟩:=List.mem_iff_getElem?.1 yM
            have Eo:j<qs.length:=by rw[ox.1];exact(List.getElem?_eq_some_iff.1 hj).1
            obtain⟨q1,q2⟩:=ox.2 j _ u (List.getElem?_eq_getElem Eo) hj
            exact q2.fw q1
           have GR:len*i.size=ps.length:=by rw[vd,←gn];exact g1.symm
           have KE:cap*sz≤arr.size:=by omega
           by_cases mQ:len+m≤cap
           ·have CL:len*i.size+us.length≤arr.size:=by
             have h3:(len+m)*sz≤cap*sz:=Nat.mul_le_mul_right _ mQ
             rw[Nat.add_mul] at h3
             rw[qx,vd,←gn];omega
            have ai:=qD (P:=P) (w:=w) hu xn hi hz o.type b len cap arr hg m us uH qx GQ yF Cb mQ CL (by omega) IS
            refine B9 _ _ (by rw[uD,qw];exact ai) ?_
            have CM:(arr.toList.take (len*i.size)++us++arr.toList.drop (len*i.size+us.length)).toArray.size=arr.size:=by
             simp;omega
            have nY:∀j,(arr.toList.take (len*i.size)++us++arr.toList.drop (len*i.size+us.length)).toArray[j]? = if len*i.size≤j∧j<len*i.size+us.length then us[j-len*i.size]? else arr[j]? := by
             intro j
             have:=e7 arr.toList (len*i.size) us (by simp;omega) j
             unfold cR at this
             rw[←List.append_assoc] at this
             simp only[List.getElem?_toArray]
             rw[this]
             simp only[Array.getElem?_toList]
            have xF:∀(j:Nat) p,(ps++qs)[j]? = some p→∃u,(arr.toList.take (len*i.size)++us++arr.toList.drop (len*i.size+us.length)).toArray[j]? = some u∧u.oneCell'=true∧Rd I w p u:=by
             intro j p hp
             rw[nY j]
             rw[List.getElem?_append] at hp
             by_cases hj:j<ps.length
             ·rw[if_pos hj] at hp
              rw[if_neg (by omega)]
              exact rX j p hp
             ·rw[if_neg hj] at hp
              have GS:=(List.getElem?_eq_some_iff.1 hp).1
              have CN:j-ps.length<us.length:=by rw[←ox.1];exact GS
              rw[if_pos (by omega),GR]
              obtain⟨q1,q2⟩:=ox.2 _ p us[j-ps.length] hp (List.getElem?_eq_getElem CN)
              exact⟨_,List.getElem?_eq_getElem CN,q2.fw q1,q2⟩
            have KF:=hr.write (sc' := .pure (ps++qs)) (Nat.lt_of_lt_of_le ES Γ.small) jG jw hg CM (fun j e' dN=>by
             simp only[SC.mw,List.getElem?_map] at dN
             cases hp:(ps++qs)[j]? with
             |none=>simp[hp] at dN
             |some p =>
              simp[hp] at dN
              subst dN
              exact xF j p hp)
            have zd:bQ r (aD.set s.aw r (.pure (ps++qs)))=bQ r s.aw:=rm r _ s.aw
            have GU:kill r ⟨s.env,aD.set s.aw r (.pure (ps++qs))⟩=kill r s:=by unfold kill;simp only[zd]
            have CO:=gU KF (r:=r) (d:=d) (len:=len+m) (sz:=sz) (out:=ps++qs) (v := .slice (some ⟨b,0,none⟩) (len+m) cap) (ob:=some b) oc po (by rw[zd];exact pr)
             (fun b' cQ=>by
              injection cQ with cQ;subst cQ
              rw[zd]
              exact⟨by simpa[World.setRow] using Bs.1,Bs.2,GO,IP b jw⟩)
             (mP (setRow_heap w b arr _ s9 (0,0) hg) (fun j p hp=>by
              obtain⟨u,q1,q2,q3⟩:=xF j p hp
              exact⟨u,q1,q2,q3.mono (fun _ h=>h) (fun b' o' hI=>dS (setRow_other w b b' _ (fun e=>Bs.2 (e ▸ hI))) o')⟩) (by simp))
             (.inr ⟨b,cap,rfl,rfl,mQ,s9,arr.size,by rw[lR w b b _ arr s9 (0,0) hg CM];exact GP,jl⟩)
            rw[GU] at CO
            exact CO
           ·have CP:(arr.toList.take ps.length).length=len*i.size:=by simp;omega
            have holds:∀(j:Nat) v,(arr.toList.take ps.length)[j]? = some v→w.cell? ((⟨b,0,none⟩:Addr).add j)=some v:=by
             intro j v hv
             rw[dC,Nat.zero_add,cell_of_row w b j arr s9 (0,0) hg]
             rw[List.getElem?_take] at hv
             split at hv
             ·simpa using hv
             ·cases hv
            have ai:=qE (P:=P) (w:=w) t1 t2 o.type el i z' hu xn hi hz ⟨b,0,none⟩ len cap (arr.toList.take ps.length) CP holds m us uH yF Cb (by omega) (by omega) IS (growslice_fits (by omega) ta)
            refine B9 _ _ (by rw[uD,qw];exact ai) ?_
            generalize hW:((arr.toList.take ps.length).toArray++us.toArray++Builtin.zeroCells z'.cells (grownCap w (len+m) cap el-(len+m)):Array Value)=narr
            have tc:bK Γ s a (w.drew.alloc (.cells narr el)) β I :=
             hr.grow (((uE.refl _ _).drew).alloc (Nat.le_refl _) _) (fun b h=>h) (fun b h => .inl h)
            have ji:(w.drew.alloc (.cells narr el)).heap[w.heap.size]? = some (.cells narr el (0,0)):=heap_alloc_new w.drew _
            have uM:=grownCap_ge w (len+m) cap el
            have xG:∀{p:PV} {u:Value},Rd I w p u→Rd I (w.drew.alloc (.cells narr el)) p u:=fun h=>h.mono (fun _ h=>h) (fun b o hI=>dS (Below.heap_alloc w.drew _ b (hr.ib b hI)) o)
            have jW:∀(j:Nat) p,(ps++qs)[j]? = some p→∃u,narr[j]? = some u∧u.oneCell'=true∧Rd I (w.drew.alloc (.cells narr el)) p u:=by
             intro j p hp
             have El:(arr.toList.take ps.length).length=ps.length:=by simp;omega
             have CQ:narr[j]? = if j<ps.length then arr[j]? else if j<ps.length+us.length then us[j-ps.length]? else (Builtin.zeroCells z'.cells (grownCap w (len+m) cap el-(len+m)))[j-(ps.length+us.length)]? := by
              rw[←hW,Array.getElem?_append,Array.getElem?_append]
              simp only[Array.size_append,List.size_toArray,El,List.getElem?_toArray]
              by_cases hj:j<ps.length
              ·rw[if_pos (by omega),if_pos hj,if_pos hj,List.getElem?_take,if_pos hj];simp
              ·by_cases ze:j<ps.length+us.length
               ·rw[if_pos ze,if_neg hj,if_neg hj,if_pos ze]
               ·rw[if_neg ze,if_neg hj,if_neg ze]
             rw[CQ]
             rw[List.getElem?_append] at hp
             by_cases hj:j<ps.length
             ·rw[if_pos hj] at hp ⊢
              obtain⟨u,q1,q2,q3⟩:=rX j p hp
              exact⟨u,q1,q2,xG q3⟩
             ·rw[if_neg hj] at hp ⊢
              have GS:=(List.getElem?_eq_some_iff.1 hp).1
              have CN:j-ps.length<us.length:=by rw[←ox.1];exact GS
              rw[if_pos (by omega)]
              obtain⟨q1,q2⟩:=ox.2 _ p us[j-ps.length] hp (List.getElem?_eq_getElem CN)
              exact⟨_,List.getElem?_eq_getElem CN,q2.fw q1,xG q2⟩
            refine gU tc (ob:=some w.heap.size) oc po pr (fun b' cQ => ?_) (mP ji jW (by simp)) (.inr ⟨w.heap.size,grownCap w (len+m) cap el,rfl,rfl,uM,el,_,by unfold World.shape?;rw[ji],?_⟩)
            ·injection cQ with cQ;subst cQ
             exact⟨by simp,fun hI=>Nat.lt_irrefl _ (hr.ib _ hI),(.inl hr.aB.size),fun x hx e=>Nat.lt_irrefl _ (hr.lb x _ (cC.1 hx).1 e)⟩
            ·rw[←hW]
             simp only[Array.size_append,List.size_toArray,CP,qx,size_zeroCells,xh,vd,gn]
             rw[←Nat.add_mul,←Nat.add_mul]
             have:len+m+(grownCap w (len+m) cap el-(len+m))=grownCap w (len+m) cap el:=by omega
             rw[this];omega
       ·cases ay
      ·cases ay
     ·cases ay
    ·cases ay
  ·cases ay
 ·cases ay
def py(T:gi)(n:Nat)(o:Oper)(h:Hint)(s:St):Option (St×List Prop) :=
 match Ay T n o h s with
 |some x=>some x
 |none=>tg T n o h s
theorem mS(hT:jh P T)(hs:∀r,aT Γ.sin r→Γ.n≤r)(hr:Rel Γ s a w)(ay:py T Γ.n o h s=some (s',ob))(bj:bV ob){K:Act→World→Prop}{Q:Exit→Act→World→Prop}
  (hk:∀a' w',Rel Γ s' a' w'→K a' w'):o.wp P a w K Q:=by
 unfold py at ay
 split at ay
 ·rename_i x hx
  injection ay with ay
  subst ay
  exact uN hT hs hr hx bj hk
 ·exact th hT hs hr ay bj hk
end
end Go.Proofs.YtnjhplhbmapclaaGreatDoor.Sym
