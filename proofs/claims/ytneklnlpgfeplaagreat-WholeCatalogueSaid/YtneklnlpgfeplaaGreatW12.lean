/- Lemmas for the statements of this seat. -/
import Derived.Test.YtneklnlpgfeplaaGreatW11
namespace Go.Proofs.YtneklnlpgfeplaaGreat.Sym
open Go Go.RowKit
set_option linter.unusedVariables false
set_option linter.unusedSimpArgs false
section
variable {P:Program} {T:ja} {Γ:Ctx} {s s':St} {a:Act} {w:World} {β:Nat→Option Nat} {I:Nat→Prop} {o:Oper} {h:Hint} {ob:List Prop}
theorem wq{m:Nat}(h:m<9223372036854775808):IntKind.i64.wrap (m:Int)=m:=by have:=IntKind.wrap_i64 (m:Int);omega
theorem qC{t t2 e:TypeId}{de:TD}(hu:P.underlying t=some (.slice e))(Ds:P.underlying t2=some (.int .i64))(hd:od P e de)(ty:TypeId)(ao:Option Addr)(len cap:Nat)(hc:len≤cap) :
  (Builtin.append_ #[t,t2] ty #[.slice ao len cap,.int .i64 ((0:Nat):Int)]).run P w = .ok (.slice ao len cap) w:=by
 obtain⟨i,hi,_,_,Vc⟩:=hd.run_typeInfo w;have hw:IntKind.i64.wrap (0:Int)=0:=wq (m:=0) (by omega);cases ao<;>simp[Builtin.append_,run_underlying hu,run_underlying Ds,hd.run_sizeOf w,hi,Vc,asInt,asIntOf,hw,hc,storeCells]
theorem yZ(t t2 ty e:TypeId)(i:TypeInfo)(z:Value)(ht:P.underlying t=some (.slice e))(Ds:P.underlying t2=some (.int .i64))(hi:P.info? e=some i)(hz:i.zero=some z)
  (n:Nat) (us:List Value) (zR:us=(Builtin.zeroCells z.cells n).toList)
  (h0:0<n) (Mq:0<i.size) (R2:(n:Int)≤9223372036854775807) (R3:n*i.bytes≤281474976710656) :
  (Builtin.append_ #[t,t2] ty #[.slice none 0 0,.int .i64 (n:Int)]).run P w =
   .ok (.slice (some ⟨w.heap.size,0,none⟩) n (grownCap w n 0 e)) (w.drew.alloc (.cells (us.toArray++Builtin.zeroCells z.cells (grownCap w n 0 e-n)) e)):=by
 subst zR;have hn:n≠0:=by omega
 have EK:¬(n*i.size=0):=fun h=>by rcases aeK.1 h with h|h<;>omega
 have hw:=wq (m:=n) (by omega);have cT:¬((n:Int)<0):=by omega
 have IM:¬(281474976710656<(n:Int)*(i.bytes:Int)):=by have II:((n*i.bytes:Nat):Int)≤((281474976710656:Nat):Int):=aey.2 R3;rw[adi] at II;have h7:((281474976710656:Nat):Int)=281474976710656:=rfl;omega
 have Pq:¬(9223372036854775807<(n:Int)):=by omega
 have Pr:¬(281474976710656<Builtin.nextslicecap n 0*i.bytes):=by rw[nextslicecap_zero h0];omega
 simp[Builtin.append_,run_underlying ht,run_underlying Ds,sizeOf,typeInfo,zeroValue,hi,hz,asInt,asIntOf,hw,cT,IM,hn,EK,Pq,Pr,Question.forced,run_firstCells_none,newRow,grownCap]
theorem xw{t t2 e z8:TypeId}{i:TypeInfo}{z:Value}(ht:P.underlying t=some (.slice e))(Ds:P.underlying t2=some (.int .i64))(hi:P.info? e=some i)(hz:i.zero=some z)(ty:TypeId)
  (g k9 uz:Nat) (cur:Array Value) (hg:w.heap[g]? = some (.cells cur z8 (0,0)))
  (m:Nat) (us:List Value) (zR:us=(Builtin.zeroCells z.cells m).toList) (hl:us.length=m*i.size) (h1:∀u∈us,u.oneCell'=true) (h0:0<m) (Mq:0<i.size)
  (sS:k9+m≤uz) (yU:k9*i.size+us.length≤cur.size) (R2:m<9223372036854775808) (R3:m*i.bytes≤281474976710656) :
  (Builtin.append_ #[t,t2] ty #[.slice (some ⟨g,0,none⟩) k9 uz,.int .i64 (m:Int)]).run P w =
   .ok (.slice (some ⟨g,0,none⟩) (k9+m) uz) (w.setRow g (cur.toList.take (k9*i.size)++us++cur.toList.drop (k9*i.size+us.length)).toArray):=by
 have bc:=run_storeCells_at P g (k9*i.size) z8 us 0 cur w hg (by simpa using yU) h1;simp only[Nat.add_zero] at bc;have hn:m≠0:=by omega
 have EK:¬(m*i.size=0):=fun h=>by rcases aeK.1 h with h|h<;>omega
 have hw:=wq R2;have cT:¬((m:Int)<0):=by omega
 have IM:¬(281474976710656<(m:Int)*(i.bytes:Int)):=by have II:((m*i.bytes:Nat):Int)≤((281474976710656:Nat):Int):=aey.2 R3;rw[adi] at II;have h7:((281474976710656:Nat):Int)=281474976710656:=rfl;omega
 subst zR;simp[Builtin.append_,run_underlying ht,run_underlying Ds,sizeOf,typeInfo,zeroValue,hi,hz,asInt,asIntOf,hw,cT,IM,hn,EK,sS,Addr.add_lit] at bc ⊢;rw[bc];rfl
theorem xx(t t2 ty e:TypeId)(i:TypeInfo)(z:Value)(ht:P.underlying t=some (.slice e))(Ds:P.underlying t2=some (.int .i64))(hi:P.info? e=some i)(hz:i.zero=some z)
  (b:Addr) (k9 uz:Nat) (MW:List Value) (Gt:MW.length=k9*i.size) (holds:∀j v,MW[j]? = some v→w.cell? (b.add j)=some v)
  (n:Nat) (us:List Value) (zR:us=(Builtin.zeroCells z.cells n).toList) (h0:0<n) (Mq:0<i.size)
  (hg:uz<k9+n) (R2:((k9+n:Nat):Int)≤9223372036854775807) (R3:n*i.bytes≤281474976710656) (yU:Builtin.nextslicecap (k9+n) uz*i.bytes≤281474976710656) :
  (Builtin.append_ #[t,t2] ty #[.slice (some b) k9 uz,.int .i64 (n:Int)]).run P w =
   .ok (.slice (some ⟨w.heap.size,0,none⟩) (k9+n) (grownCap w (k9+n) uz e))
    (w.drew.alloc (.cells (MW.toArray++us.toArray++Builtin.zeroCells z.cells (grownCap w (k9+n) uz e-(k9+n))) e)):=by
 subst zR;have hn:¬(k9+n≤uz):=by omega
 have ZC:n≠0:=by omega
 have EK:¬(n*i.size=0):=fun h=>by rcases aeK.1 h with h|h<;>omega
 have hw:=wq (m:=n) (by omega);have cT:¬((n:Int)<0):=by omega
 have IM:¬(281474976710656<(n:Int)*(i.bytes:Int)):=by have II:((n*i.bytes:Nat):Int)≤((281474976710656:Nat):Int):=aey.2 R3;rw[adi] at II;have h7:((281474976710656:Nat):Int)=281474976710656:=rfl;omega
 have Pq:¬(9223372036854775807<((k9:Int)+(n:Int))):=by omega
 have Pr:¬(281474976710656<Builtin.nextslicecap (k9+n) uz*i.bytes):=by omega
 have Ug:=run_firstCells_some (P:=P) w.drew i.size k9 b k9 uz MW Gt (by simpa using holds);simp[Builtin.append_,run_underlying ht,run_underlying Ds,sizeOf,typeInfo,zeroValue,hi,hz,asInt,asIntOf,hw,cT,IM,hn,ZC,EK,Pq,Pr,Question.forced,Ug,newRow,grownCap]
 try (congr 2;apply adN;simp[List.append_assoc])
def Ae(T:ja)(n:Nat)(o:Oper)(h:Hint)(s:St):Option (St×List Prop) :=
 match o.op,o.dst,h with
 |.call c,some d,.app uA out=>match c.callee,c.args.toList,c.argTypes.toList with
  |.builtin .append,[x,y],[t1,t2]=>bif Nat.blt d n then
    match T.get t1,T.get t2 with
    |some dt,some du=>match dt.kind,du.kind with
     |.slice el,.int .i64=>match T.get el,cU s.env x,cU s.env y with
      |some de,some (.row r 0 len sz),some (.pv (.int .i64 q))=>match s.aP.get r,(kill r s).aP.get d with
       |some (.pure ps),none=>bif Nat.beq sz de.size&&Nat.ble 1 sz&&Nat.blt r n then
         some (⟨nN (kill r s).env (some d) (.row d 0 uA sz),(d,.pure out)::(kill r s).aP⟩,
          [ps.length=len*sz,len≤uA,q=((uA-len:Nat):Int),ps++(List.replicate (uA-len) (gO .none de)).flatten=out,uA*de.bytes≤140737488355328,uA<9223372036854775808])
        else none
       |_,_=>none
      |_,_,_=>none
     |_,_=>none
    |_,_=>none
   else none
  |_,_,_=>none
 |_,_,_=>none
theorem Af(hT:mm P T)(hs:∀r,bz Γ.sin r→Γ.n≤r)(hr:Rel Γ s a w)(bc:Ae T Γ.n o h s=some (s',ob))(cf:dW ob){K:Act→World→Prop}{Q:Exit→Act→World→Prop}
  (hk:∀a' w',Rel Γ s' a' w'→K a' w'):o.wp P a w K Q:=by
 obtain⟨β,I,hr⟩:=hr;unfold Ae at bc;split at bc
 ·rename_i c d uA out pB EM;split at bc
  ·rename_i x y t1 t2 nJ il Gk;cases Gb:(Nat.blt d Γ.n) with
   |false=>simp[Gb] at bc
   |true =>
    simp only[Gb,cond_true] at bc;have uG:d<Γ.n:=abM Gb;split at bc
    ·rename_i dt du RY ZD;split at bc
     ·rename_i el Eo Rp;obtain⟨un,hu,_,hf⟩:=(hT t1 dt RY).under;rw[Eo] at hf;have hf:un = .slice el:=hf;subst hf;obtain⟨Yl,Ds,_,Uo⟩:=(hT t2 du ZD).under;rw[Rp] at Uo;have Uo:Yl = .int .i64:=Uo;subst Uo;split at bc
      ·rename_i de r len sz q nL hx hy;split at bc
       ·rename_i ps lB uF;cases sG:(Nat.beq sz de.size&&Nat.ble 1 sz&&Nat.blt r Γ.n) with
        |false=>simp[sG] at bc
        |true =>
         simp only[sG,cond_true] at bc;simp only[Bool.and_eq_true] at sG;have ji:sz=de.size:=abO sG.1.1;have RZ:1≤sz:=abM sG.1.2;have MS:r<Γ.n:=abM sG.2;injection bc with bc;injection bc with h1 h2
         subst h1;subst h2;obtain⟨g1,cf⟩:=cf.cons;obtain⟨gl,cf⟩:=cf.cons;obtain⟨gq,cf⟩:=cf.cons;obtain⟨g4,cf⟩:=cf.cons;obtain⟨g5,g6⟩:=cf.cons;obtain⟨m,rfl⟩:∃m,uA=len+m:=⟨uA-len,by omega⟩;rw[aek] at gq g4;have g6:len+m<9223372036854775808:=g6;subst g4;obtain⟨i,hi,Cu,Rm,z,hz,_,yQ,_⟩:=(hT el de nL).info;obtain⟨z',Oh,_,_,Js⟩:=(hT el de nL).oD w;have ZE:z'=z:=by
          have e1:(zeroValue el).run P w = .ok z w:=by simp[zeroValue,typeInfo,hi,hz]
          rw[e1] at Oh;injection Oh with Oh _
          exact Oh.symm
         subst ZE;have hex:=hr.zZ x _ hx;have HO:Rd I w (.int .i64 q) (a.eval y):=hr.zZ y _ hy;have xp:a.eval y = .int .i64 (m:Int):=by generalize a.eval y=v at HO;cases HO;rw[gq]
         obtain⟨we,wg⟩:=hex;have HN:=(hr.aP.1 r _ lB).1;have Pg:¬bz Γ.sin r:=fun h=>by have:=hs r h;omega
         have wj:¬bz Γ.sin d:=fun h=>absurd (hs d h) (acT uG)
         have wk:¬bz (kill r s).aP d:=by unfold bz;rw[uF];simp
         obtain⟨us,zR⟩:∃us,us=(Builtin.zeroCells z'.cells m).toList:=⟨_,rfl⟩;have uw:bO I w ((List.replicate m (gO .none de)).flatten) us:=by rw[zR];unfold Builtin.zeroCells;rw[yQ];have:=zS ((Js I w).gO .none) m (m*de.size) (by rw[yQ]) (by omega);rwa[yQ] at this
         have yT:us.length=m*i.size:=by rw[zR,adb,size_zeroCells,yQ,Cu]
         have ER:((List.replicate m (gO .none de)).flatten).length=m*sz:=by rw[uw.1,yT,Cu,←ji]
         generalize (List.replicate m (gO .none de)).flatten=qs at *;have Ep:∀v' w',(Builtin.append_ #[t1,t2] o.type #[a.eval x,a.eval y]).run P w = .ok v' w'→Rel Γ ⟨nN (kill r s).env (some d) (.row d 0 (len+m) sz),(d,.pure (ps++qs))::(kill r s).aP⟩ (a.put (some d) v') w'→o.wp P a w K Q:=by intro v' w' aJ gW;have mF:=yX il;have wa:=yX Gk;obtain⟨cl,args,FZ⟩:=c;simp only at nJ mF wa;subst nJ;subst mF;subst wa;unfold Oper.wp execOp;simp only[pB,resolve,invoke,builtin,Sem.run_bind,Sem.run_pure,Result.andThen_ok,List.map_toArray,List.map_cons,List.map_nil,aJ];show K (a.put o.dst v') w';rw[EM];exact hk _ _ gW
         have Mq:0<i.size:=by rw[Cu,←ji];exact RZ
         have R4:m*i.bytes≤281474976710656:=by
          have:(len+m)*i.bytes≤140737488355328:=by rw[Rm];exact g5
          rw[acv] at this;omega
         have vk:(len+m)*i.bytes≤140737488355328:=by rw[Rm];exact g5
         have Vm:len+m≤maxLen:=by unfold maxLen;omega
         have R1:∀b,β r=some b→∀x,bz (dE r s.aP) x→β x≠some b:=fun b hb x hx e =>(fe.1 hx).2 (hr.aP.2 x r b (fe.1 hx).1 we e hb)
         rcases wg with ⟨Oe,EG,BU⟩|⟨b,cap,lA,BU,IJ,Zy,nx,zW,yU⟩
         ·
          subst EG;have J0:ps=[]:=abT (by simpa using g1);subst J0;rcases(Or.inr trivial:False∨True) with hF|_
          ·exact hF.elim
          ·skip
           rcases ae0 m with F0|F0
           ·subst F0;have MU:qs=[]:=abT (by simpa using ER);subst MU;refine Ep _ _ (by rw[BU,xp];exact qC hu Ds (hT el de nL) _ none 0 0 (abW _)) ?_;exact lF hr (ob:=none) uG wj wk (fun b hb=>by cases hb) (.inl ⟨by simp,rfl⟩) (.inl ⟨rfl,rfl,rfl⟩)
           ·have aJ:=yZ (P:=P) (w:=w) t1 t2 o.type el i z' hu Ds hi hz m us zR F0 Mq (by omega) (by simp only[Nat.zero_add] at vk;omega);refine Ep _ _ (by rw[BU,xp];exact aJ) ?_;have wo:dh Γ s a (w.drew.alloc (.cells (us.toArray++Builtin.zeroCells z'.cells (grownCap w m 0 el-m)) el)) β I :=
             hr.grow (((yK.refl _ _).drew).alloc (abW _) _) (fun b h=>h) (fun b h => .inl h)
            have qx:(w.drew.alloc (.cells (us.toArray++Builtin.zeroCells z'.cells (grownCap w m 0 el-m)) el)).heap[w.heap.size]? = some (.cells (us.toArray++Builtin.zeroCells z'.cells (grownCap w m 0 el-m)) el (0,0)):=heap_alloc_new w.drew _;have Aa:=grownCap_ge w m 0 el;have oH:∀(j:Nat) p,(([]:List PV)++qs)[j]? = some p→∃u,(us.toArray++Builtin.zeroCells z'.cells (grownCap w m 0 el-m))[j]? = some u∧u.oneCell'=true∧Rd I (w.drew.alloc (.cells (us.toArray++Builtin.zeroCells z'.cells (grownCap w m 0 el-m)) el)) p u:=by
             intro j p hp;simp only[List.nil_append] at hp;have hj:j<us.length:=by rw[←uw.1];exact(abL.1 hp).1
             obtain⟨q1,q2⟩:=uw.2 j p us[j] hp (abJ hj);refine⟨us[j],by rw[aea (by simpa using hj)];simp[hj],q2.jt q1,q2.mono (fun _ h=>h) (fun b o hI=>fh (Below.heap_alloc w.drew _ b (hr.ib b hI)) o)⟩
            refine lF wo (ob:=some w.heap.size) uG wj wk (fun b hb => ?_) (sQ qx oH (by simp)) (.inr ⟨w.heap.size,grownCap w m 0 el,rfl,by simp,by simpa using Aa,el,_,by unfold World.shape?;rw[qx],?_⟩)
            ·injection hb with hb;subst hb
             exact⟨by simp,fun hI=>adT _ (hr.ib _ hI),(.inl hr.aW.size),fun x hx e=>adT _ (hr.lb x _ (fe.1 hx).1 e)⟩
            ·simp only[Array.size_append,List.size_toArray,yT,size_zeroCells,yQ,Cu,ji];rw[←acv];have:m+(grownCap w m 0 el-m)=grownCap w m 0 el:=by omega
             rw[this];omega
         ·
          have Ph:Γ.Nw b:=hr.new r b we (.inl Pg) lA;have IK:=((hr.aP.1 r _ lB).2 b lA);obtain⟨arr,z8,hg,MD,vO⟩:=vi HN lA;have J1:w.shape? b=some (z8,arr.size):=by unfold World.shape?;rw[hg]
          have Dt:nx=arr.size:=by rw[J1] at zW;injection zW with zW;injection zW with h1 h2;exact h2.symm
          subst Dt;rcases ae0 m with F0|F0
          ·skip
           subst F0;have MU:qs=[]:=abT (by simpa using ER);subst MU;refine Ep _ _ (by rw[BU,xp];exact qC hu Ds (hT el de nL) _ _ len cap IJ) ?_;exact lF hr (ob:=some b) uG wj wk (fun b' fc=>by injection fc with fc;subst fc;exact⟨IK.1,IK.2,Ph,R1 b lA⟩)
            (sQ hg (fun j p hp=>vO j p (by simpa using hp)) (by simp)) (.inr ⟨b,cap,rfl,rfl,IJ,z8,_,J1,yU⟩)
          ·skip
           have Pj:∀u∈us,u.oneCell'=true:=fun u Dl=>by
            obtain⟨j,hj⟩:=acR.1 Dl;have HP:j<qs.length:=by rw[uw.1];exact(abL.1 hj).1
            obtain⟨q1,q2⟩:=uw.2 j _ u (abJ HP) hj;exact q2.jt q1
           have Pk:len*i.size=ps.length:=by rw[Cu,←ji];exact g1.symm
           have Vn:cap*sz≤arr.size:=by omega
           by_cases sS:len+m≤cap
           ·have J2:len*i.size+us.length≤arr.size:=by
             have h3:(len+m)*sz≤cap*sz:=ac9 _ sS;rw[acv] at h3;rw[yT,Cu,←ji];omega
            have aJ:=xw (P:=P) (w:=w) hu Ds hi hz o.type b len cap arr hg m us zR yT Pj F0 Mq sS J2 (by omega) R4;refine Ep _ _ (by rw[BU,xp];exact aJ) ?_;have J3:(arr.toList.take (len*i.size)++us++arr.toList.drop (len*i.size+us.length)).toArray.size=arr.size:=by simp;omega
            have qz:∀j,(arr.toList.take (len*i.size)++us++arr.toList.drop (len*i.size+us.length)).toArray[j]? = if len*i.size≤j∧j<len*i.size+us.length then us[j-len*i.size]? else arr[j]? := by intro j;have:=fY arr.toList (len*i.size) us (by simp;omega) j;unfold dB at this;rw[←ae9] at this;simp only[List.getElem?_toArray];rw[this];simp only[Array.getElem?_toList]
            have ES:∀(j:Nat) p,(ps++qs)[j]? = some p→∃u,(arr.toList.take (len*i.size)++us++arr.toList.drop (len*i.size+us.length)).toArray[j]? = some u∧u.oneCell'=true∧Rd I w p u:=by
             intro j p hp;rw[qz j];rw[acC] at hp;by_cases hj:j<ps.length
             ·rw[ac7 hj] at hp;rw[ac3 (by omega)];exact vO j p hp
             ·rw[ac3 hj] at hp;have Pm:=(abL.1 hp).1;have J4:j-ps.length<us.length:=by rw[←uw.1];exact Pm
              rw[ac7 (by omega),Pk];obtain⟨q1,q2⟩:=uw.2 _ p us[j-ps.length] hp (abJ J4);exact⟨_,abJ J4,q2.jt q1,q2⟩
            have Vo:=hr.write (sc' := .pure (ps++qs)) (ac4 MS Γ.small) lB lA hg J3 (fun j e' gi=>by
             simp only[SC.oe,List.getElem?_map] at gi;cases hp:(ps++qs)[j]? with
             |none=>simp[hp] at gi
             |some p =>simp[hp] at gi;subst gi;exact ES j p hp)
            have Gq:dE r (aY.set s.aP r (.pure (ps++qs)))=dE r s.aP:=x7 r _ s.aP;have Pn:kill r ⟨s.env,aY.set s.aP r (.pure (ps++qs))⟩=kill r s:=by unfold kill;simp only[Gq]
            have J5:=lF Vo (r:=r) (d:=d) (len:=len+m) (sz:=sz) (out:=ps++qs) (v := .slice (some ⟨b,0,none⟩) (len+m) cap) (ob:=some b) uG wj (by rw[Gq];exact wk)
             (fun b' fc=>by
              injection fc with fc;subst fc
              rw[Gq];exact⟨by simpa[World.setRow] using IK.1,IK.2,Ph,R1 b lA⟩)
             (sQ (setRow_heap w b arr _ z8 (0,0) hg) (fun j p hp=>by obtain⟨u,q1,q2,q3⟩:=ES j p hp;exact⟨u,q1,q2,q3.mono (fun _ h=>h) (fun b' o' hI=>fh (setRow_other w b b' _ (fun e=>IK.2 (e ▸ hI))) o')⟩) (by simp))
             (.inr ⟨b,cap,rfl,rfl,sS,z8,arr.size,by rw[rh w b b _ arr z8 (0,0) hg J3];exact J1,yU⟩)
            rw[Pn] at J5;exact J5
           ·have J6:(arr.toList.take ps.length).length=len*i.size:=by simp;omega
            have holds:∀(j:Nat) v,(arr.toList.take ps.length)[j]? = some v→w.cell? ((⟨b,0,none⟩:Addr).add j)=some v:=by
             intro j v hv;rw[gw,acw,cell_of_row w b j arr z8 (0,0) hg];rw[ack] at hv;split at hv
             ·simpa using hv
             ·cases hv
            have aJ:=xx (P:=P) (w:=w) t1 t2 o.type el i z' hu Ds hi hz ⟨b,0,none⟩ len cap (arr.toList.take ps.length) J6 holds m us zR F0 Mq (by omega) (by omega) R4 (growslice_fits (by omega) vk);refine Ep _ _ (by rw[BU,xp];exact aJ) ?_;generalize hW:((arr.toList.take ps.length).toArray++us.toArray++Builtin.zeroCells z'.cells (grownCap w (len+m) cap el-(len+m)):Array Value)=narr;have wo:dh Γ s a (w.drew.alloc (.cells narr el)) β I :=
             hr.grow (((yK.refl _ _).drew).alloc (abW _) _) (fun b h=>h) (fun b h => .inl h)
            have qx:(w.drew.alloc (.cells narr el)).heap[w.heap.size]? = some (.cells narr el (0,0)):=heap_alloc_new w.drew _;have Aa:=grownCap_ge w (len+m) cap el;have ET:∀{p:PV} {u:Value},Rd I w p u→Rd I (w.drew.alloc (.cells narr el)) p u:=fun h=>h.mono (fun _ h=>h) (fun b o hI=>fh (Below.heap_alloc w.drew _ b (hr.ib b hI)) o)
            have oH:∀(j:Nat) p,(ps++qs)[j]? = some p→∃u,narr[j]? = some u∧u.oneCell'=true∧Rd I (w.drew.alloc (.cells narr el)) p u:=by
             intro j p hp;have IC:(arr.toList.take ps.length).length=ps.length:=by simp;omega
             have J7:narr[j]? = if j<ps.length then arr[j]? else if j<ps.length+us.length then us[j-ps.length]? else (Builtin.zeroCells z'.cells (grownCap w (len+m) cap el-(len+m)))[j-(ps.length+us.length)]? := by
              rw[←hW,adt,adt];simp only[Array.size_append,List.size_toArray,IC,List.getElem?_toArray];by_cases hj:j<ps.length
              ·rw[ac7 (by omega),ac7 hj,ac7 hj,ack,ac7 hj];simp
              ·by_cases Dw:j<ps.length+us.length
               ·rw[ac7 Dw,ac3 hj,ac3 hj,ac7 Dw]
               ·rw[ac3 Dw,ac3 hj,ac3 Dw]
             rw[J7];rw[acC] at hp;by_cases hj:j<ps.length
             ·rw[ac7 hj] at hp ⊢;obtain⟨u,q1,q2,q3⟩:=vO j p hp;exact⟨u,q1,q2,ET q3⟩
             ·rw[ac3 hj] at hp ⊢;have Pm:=(abL.1 hp).1;have J4:j-ps.length<us.length:=by rw[←uw.1];exact Pm
              rw[ac7 (by omega)];obtain⟨q1,q2⟩:=uw.2 _ p us[j-ps.length] hp (abJ J4);exact⟨_,abJ J4,q2.jt q1,ET q2⟩
            refine lF wo (ob:=some w.heap.size) uG wj wk (fun b' fc => ?_) (sQ qx oH (by simp)) (.inr ⟨w.heap.size,grownCap w (len+m) cap el,rfl,rfl,Aa,el,_,by unfold World.shape?;rw[qx],?_⟩)
            ·injection fc with fc;subst fc
             exact⟨by simp,fun hI=>adT _ (hr.ib _ hI),(.inl hr.aW.size),fun x hx e=>adT _ (hr.lb x _ (fe.1 hx).1 e)⟩
            ·rw[←hW];simp only[Array.size_append,List.size_toArray,J6,yT,size_zeroCells,yQ,Cu,ji];rw[←acv,←acv];have:len+m+(grownCap w (len+m) cap el-(len+m))=grownCap w (len+m) cap el:=by omega
             rw[this];omega
       ·cases bc
      ·cases bc
     ·cases bc
    ·cases bc
  ·cases bc
 ·cases bc
def wu(T:ja)(n:Nat)(o:Oper)(h:Hint)(s:St):Option (St×List Prop) :=
 match HU T n o h s with
 |some x=>some x
 |none=>Ae T n o h s
theorem sW(hT:mm P T)(hs:∀r,bz Γ.sin r→Γ.n≤r)(hr:Rel Γ s a w)(bc:wu T Γ.n o h s=some (s',ob))(cf:dW ob){K:Act→World→Prop}{Q:Exit→Act→World→Prop}
  (hk:∀a' w',Rel Γ s' a' w'→K a' w'):o.wp P a w K Q:=by
 unfold wu at bc;split at bc
 ·rename_i x hx;injection bc with bc
  subst bc;exact B6 hT hs hr hx cf hk
 ·exact Af hT hs hr bc cf hk
end
end Go.Proofs.YtneklnlpgfeplaaGreat.Sym
