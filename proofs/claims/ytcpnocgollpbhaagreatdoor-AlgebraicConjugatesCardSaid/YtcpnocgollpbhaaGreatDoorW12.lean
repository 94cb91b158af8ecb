/- Lemmas for the statements of this seat. -/
import Derived.Test.YtcpnocgollpbhaaGreatDoorW11
namespace Go.Proofs.YtcpnocgollpbhaaGreatDoor.Sym
open Go Go.RowKit
set_option linter.unusedVariables false
set_option linter.unusedSimpArgs false
section
variable {P:Program} {T:kL} {Γ:Ctx} {s s':St} {a:Act} {w:World} {β:Nat→Option Nat} {I:Nat→Prop} {o:Oper} {h:Hint} {ob:List Prop}
theorem w9{m:Nat}(h:m<9223372036854775808):IntKind.i64.wrap (m:Int)=m:=by have:=IntKind.wrap_i64 (m:Int);omega
theorem ra{t t2 e:TypeId}{de:TD}(hu:P.underlying t=some (.slice e))(Hl:P.underlying t2=some (.int .i64))(hd:pJ P e de)(ty:TypeId)(ao:Option Addr)(len cap:Nat)(hc:len≤cap) :
  (Builtin.append_ #[t,t2] ty #[.slice ao len cap,.int .i64 ((0:Nat):Int)]).run P w = .ok (.slice ao len cap) w:=by
 obtain⟨i,hi,_,_,Zd⟩:=hd.run_typeInfo w;have hw:IntKind.i64.wrap (0:Int)=0:=w9 (m:=0) (by omega);cases ao<;>simp[Builtin.append_,run_underlying hu,run_underlying Hl,hd.run_sizeOf w,hi,Zd,asInt,asIntOf,hw,hc,storeCells]
theorem Al(t t2 ty e:TypeId)(i:TypeInfo)(z:Value)(ht:P.underlying t=some (.slice e))(Hl:P.underlying t2=some (.int .i64))(hi:P.info? e=some i)(hz:i.zero=some z)
  (n:Nat) (us:List Value) (Dx:us=(Builtin.zeroCells z.cells n).toList)
  (h0:0<n) (NC:0<i.size) (Zt:(n:Int)≤9223372036854775807) (WB:n*i.bytes≤281474976710656) :
  (Builtin.append_ #[t,t2] ty #[.slice none 0 0,.int .i64 (n:Int)]).run P w =
   .ok (.slice (some ⟨w.heap.size,0,none⟩) n (grownCap w n 0 e)) (w.drew.alloc (.cells (us.toArray++Builtin.zeroCells z.cells (grownCap w n 0 e-n)) e)):=by
 subst Dx;have hn:n≠0:=by omega
 have Hw:¬(n*i.size=0):=fun h=>by rcases ajj.1 h with h|h<;>omega
 have hw:=w9 (m:=n) (by omega);have bH:¬((n:Int)<0):=by omega
 have SQ:¬(281474976710656<(n:Int)*(i.bytes:Int)):=by have NZ:((n*i.bytes:Nat):Int)≤((281474976710656:Nat):Int):=aj8.2 WB;rw[agz] at NZ;have h7:((281474976710656:Nat):Int)=281474976710656:=rfl;omega
 have T9:¬(9223372036854775807<(n:Int)):=by omega
 have Ua:¬(281474976710656<Builtin.nextslicecap n 0*i.bytes):=by rw[nextslicecap_zero h0];omega
 simp[Builtin.append_,run_underlying ht,run_underlying Hl,sizeOf,typeInfo,zeroValue,hi,hz,asInt,asIntOf,hw,bH,SQ,hn,Hw,T9,Ua,Question.forced,run_firstCells_none,newRow,grownCap]
theorem yo{t t2 e Bm:TypeId}{i:TypeInfo}{z:Value}(ht:P.underlying t=some (.slice e))(Hl:P.underlying t2=some (.int .i64))(hi:P.info? e=some i)(hz:i.zero=some z)(ty:TypeId)
  (g lU uW:Nat) (cur:Array Value) (hg:w.heap[g]? = some (.cells cur Bm (0,0)))
  (m:Nat) (us:List Value) (Dx:us=(Builtin.zeroCells z.cells m).toList) (hl:us.length=m*i.size) (h1:∀u∈us,u.oneCell'=true) (h0:0<m) (NC:0<i.size)
  (tu:lU+m≤uW) (q8:lU*i.size+us.length≤cur.size) (Zt:m<9223372036854775808) (WB:m*i.bytes≤281474976710656) :
  (Builtin.append_ #[t,t2] ty #[.slice (some ⟨g,0,none⟩) lU uW,.int .i64 (m:Int)]).run P w =
   .ok (.slice (some ⟨g,0,none⟩) (lU+m) uW) (w.setRow g (cur.toList.take (lU*i.size)++us++cur.toList.drop (lU*i.size+us.length)).toArray):=by
 have aK:=run_storeCells_at P g (lU*i.size) Bm us 0 cur w hg (by simpa using q8) h1;simp only[Nat.add_zero] at aK;have hn:m≠0:=by omega
 have Hw:¬(m*i.size=0):=fun h=>by rcases ajj.1 h with h|h<;>omega
 have hw:=w9 Zt;have bH:¬((m:Int)<0):=by omega
 have SQ:¬(281474976710656<(m:Int)*(i.bytes:Int)):=by have NZ:((m*i.bytes:Nat):Int)≤((281474976710656:Nat):Int):=aj8.2 WB;rw[agz] at NZ;have h7:((281474976710656:Nat):Int)=281474976710656:=rfl;omega
 subst Dx;simp[Builtin.append_,run_underlying ht,run_underlying Hl,sizeOf,typeInfo,zeroValue,hi,hz,asInt,asIntOf,hw,bH,SQ,hn,Hw,tu,Addr.add_lit] at aK ⊢;rw[aK];rfl
theorem yp(t t2 ty e:TypeId)(i:TypeInfo)(z:Value)(ht:P.underlying t=some (.slice e))(Hl:P.underlying t2=some (.int .i64))(hi:P.info? e=some i)(hz:i.zero=some z)
  (b:Addr) (lU uW:Nat) (Rh:List Value) (HD:Rh.length=lU*i.size) (holds:∀j v,Rh[j]? = some v→w.cell? (b.add j)=some v)
  (n:Nat) (us:List Value) (Dx:us=(Builtin.zeroCells z.cells n).toList) (h0:0<n) (NC:0<i.size)
  (hg:uW<lU+n) (Zt:((lU+n:Nat):Int)≤9223372036854775807) (WB:n*i.bytes≤281474976710656) (q8:Builtin.nextslicecap (lU+n) uW*i.bytes≤281474976710656) :
  (Builtin.append_ #[t,t2] ty #[.slice (some b) lU uW,.int .i64 (n:Int)]).run P w =
   .ok (.slice (some ⟨w.heap.size,0,none⟩) (lU+n) (grownCap w (lU+n) uW e))
    (w.drew.alloc (.cells (Rh.toArray++us.toArray++Builtin.zeroCells z.cells (grownCap w (lU+n) uW e-(lU+n))) e)):=by
 subst Dx;have hn:¬(lU+n≤uW):=by omega
 have hnz:n≠0:=by omega
 have Hw:¬(n*i.size=0):=fun h=>by rcases ajj.1 h with h|h<;>omega
 have hw:=w9 (m:=n) (by omega);have bH:¬((n:Int)<0):=by omega
 have SQ:¬(281474976710656<(n:Int)*(i.bytes:Int)):=by have NZ:((n*i.bytes:Nat):Int)≤((281474976710656:Nat):Int):=aj8.2 WB;rw[agz] at NZ;have h7:((281474976710656:Nat):Int)=281474976710656:=rfl;omega
 have T9:¬(9223372036854775807<((lU:Int)+(n:Int))):=by omega
 have Ua:¬(281474976710656<Builtin.nextslicecap (lU+n) uW*i.bytes):=by omega
 have Yw:=run_firstCells_some (P:=P) w.drew i.size lU b lU uW Rh HD (by simpa using holds);simp[Builtin.append_,run_underlying ht,run_underlying Hl,sizeOf,typeInfo,zeroValue,hi,hz,asInt,asIntOf,hw,bH,SQ,hn,hnz,Hw,T9,Ua,Question.forced,Yw,newRow,grownCap]
 try (congr 2;apply aiU;simp[List.append_assoc])
def Br(T:kL)(n:Nat)(o:Oper)(h:Hint)(s:St):Option (St×List Prop) :=
 match o.op,o.dst,h with
 |.call c,some d,.app uX out=>match c.callee,c.args.toList,c.argTypes.toList with
  |.builtin .append,[x,y],[t1,t2]=>bif Nat.blt d n then
    match T.get t1,T.get t2 with
    |some dt,some du=>match dt.kind,du.kind with
     |.slice el,.int .i64=>match T.get el,dh s.env x,dh s.env y with
      |some de,some (.row r 0 len sz),some (.pv (.int .i64 q))=>match s.aG.get r,(kill r s).aG.get d with
       |some (.pure ps),none=>bif Nat.beq sz de.size&&Nat.ble 1 sz&&Nat.blt r n then
         some (⟨oY (kill r s).env (some d) (.row d 0 uX sz),(d,.pure out)::(kill r s).aG⟩,
          [ps.length=len*sz,len≤uX,q=((uX-len:Nat):Int),ps++(List.replicate (uX-len) (jk .none de)).flatten=out,uX*de.bytes≤140737488355328,uX<9223372036854775808])
        else none
       |_,_=>none
      |_,_,_=>none
     |_,_=>none
    |_,_=>none
   else none
  |_,_,_=>none
 |_,_,_=>none
theorem Bs(hT:n8 P T)(hs:∀r,bB Γ.sin r→Γ.n≤r)(hr:Rel Γ s a w)(aK:Br T Γ.n o h s=some (s',ob))(bT:dK ob){K:Act→World→Prop}{Q:Exit→Act→World→Prop}
  (hk:∀a' w',Rel Γ s' a' w'→K a' w'):o.wp P a w K Q:=by
 obtain⟨β,I,hr⟩:=hr;unfold Br at aK;split at aK
 ·rename_i c d uX out uV Hy;split at aK
  ·rename_i x y t1 t2 rH ky Ju;cases td:(Nat.blt d Γ.n) with
   |false=>simp[td] at aK
   |true =>
    simp only[td,cond_true] at aK;have vf:d<Γ.n:=afS td;split at aK
    ·rename_i dt du Wx hdu;split at aK
     ·rename_i el My hk2;obtain⟨un,hu,_,hf⟩:=(hT t1 dt Wx).under;rw[My] at hf;have hf:un = .slice el:=hf;subst hf;obtain⟨Zi,Hl,_,YD⟩:=(hT t2 du hdu).under;rw[hk2] at YD;have YD:Zi = .int .i64:=YD;subst YD;split at aK
      ·rename_i de r len sz q oW hx hy;split at aK
       ·rename_i ps oz ve;cases s7:(Nat.beq sz de.size&&Nat.ble 1 sz&&Nat.blt r Γ.n) with
        |false=>simp[s7] at aK
        |true =>
         simp only[s7,cond_true] at aK;simp only[Bool.and_eq_true] at s7;have lT:sz=de.size:=ag0 s7.1.1;have Wy:1≤sz:=afS s7.1.2;have Rc:r<Γ.n:=afS s7.2;injection aK with aK;injection aK with h1 h2
         subst h1;subst h2;obtain⟨g1,bT⟩:=bT.cons;obtain⟨gl,bT⟩:=bT.cons;obtain⟨gq,bT⟩:=bT.cons;obtain⟨g4,bT⟩:=bT.cons;obtain⟨g5,g6⟩:=bT.cons;obtain⟨m,rfl⟩:∃m,uX=len+m:=⟨uX-len,by omega⟩;rw[aj2] at gq g4;have g6:len+m<9223372036854775808:=g6;subst g4;obtain⟨i,hi,D8,Wa,z,hz,_,Hf,_⟩:=(hT el de oW).info;obtain⟨z',QK,_,_,QH⟩:=(hT el de oW).qY w;have hzz:z'=z:=by
          have e1:(zeroValue el).run P w = .ok z w:=by simp[zeroValue,typeInfo,hi,hz]
          rw[e1] at QK;injection QK with QK _
          exact QK.symm
         subst hzz;have hex:=hr.G7 x _ hx;have KQ:Rd I w (.int .i64 q) (a.eval y):=hr.G7 y _ hy;have yf:a.eval y = .int .i64 (m:Int):=by generalize a.eval y=v at KQ;cases KQ;rw[gq]
         obtain⟨yi,ym⟩:=hex;have KP:=(hr.aG.1 r _ oz).1;have T1:¬bB Γ.sin r:=fun h=>by have:=hs r h;omega
         have w6:¬bB Γ.sin d:=fun h=>absurd (hs d h) (ahC vf)
         have w7:¬bB (kill r s).aG d:=by unfold bB;rw[ve];simp
         obtain⟨us,Dx⟩:∃us,us=(Builtin.zeroCells z'.cells m).toList:=⟨_,rfl⟩;have uT:bE I w ((List.replicate m (jk .none de)).flatten) us:=by rw[Dx];unfold Builtin.zeroCells;rw[Hf];have:=Bf ((QH I w).jk .none) m (m*de.size) (by rw[Hf]) (by omega);rwa[Hf] at this
         have yg:us.length=m*i.size:=by rw[Dx,aie,size_zeroCells,Hf,D8]
         have Ea:((List.replicate m (jk .none de)).flatten).length=m*sz:=by rw[uT.1,yg,D8,←lT]
         generalize (List.replicate m (jk .none de)).flatten=qs at *;have Ny:∀v' w',(Builtin.append_ #[t1,t2] o.type #[a.eval x,a.eval y]).run P w = .ok v' w'→Rel Γ ⟨oY (kill r s).env (some d) (.row d 0 (len+m) sz),(d,.pure (ps++qs))::(kill r s).aG⟩ (a.put (some d) v') w'→o.wp P a w K Q:=by intro v' w' ar kC;have mX:=Ak ky;have wW:=Ak Ju;obtain⟨cl,args,N4⟩:=c;simp only at rH mX wW;subst rH;subst mX;subst wW;unfold Oper.wp execOp;simp only[uV,resolve,invoke,builtin,Sem.run_bind,Sem.run_pure,Result.andThen_ok,List.map_toArray,List.map_cons,List.map_nil,ar];show K (a.put o.dst v') w';rw[Hy];exact hk _ _ kC
         have NC:0<i.size:=by rw[D8,←lT];exact Wy
         have WC:m*i.bytes≤281474976710656:=by
          have:(len+m)*i.bytes≤140737488355328:=by rw[Wa];exact g5
          rw[agF] at this;omega
         have Bn:(len+m)*i.bytes≤140737488355328:=by rw[Wa];exact g5
         have yn:len+m≤maxLen:=by unfold maxLen;omega
         have WA:∀b,β r=some b→∀x,bB (dx r s.aG) x→β x≠some b:=fun b hb x hx e =>(eV.1 hx).2 (hr.aG.2 x r b (eV.1 hx).1 yi e hb)
         rcases ym with ⟨SM,Hp,Dm⟩|⟨b,cap,ot,Dm,Q3,elx,nx,D7,q8⟩
         ·
          subst Hp;have Oa:ps=[]:=afP (by simpa using g1);subst Oa;rcases(Or.inr trivial:False∨True) with hF|_
          ·exact hF.elim
          ·skip
           rcases aiB m with Jb|Jb
           ·subst Jb;have o4:qs=[]:=afP (by simpa using Ea);subst o4;refine Ny _ _ (by rw[Dm,yf];exact ra hu Hl (hT el de oW) _ none 0 0 (afY _)) ?_;exact l9 hr (ob:=none) vf w6 w7 (fun b hb=>by cases hb) (.inl ⟨by simp,rfl⟩) (.inl ⟨rfl,rfl,rfl⟩)
           ·have ar:=Al (P:=P) (w:=w) t1 t2 o.type el i z' hu Hl hi hz m us Dx Jb NC (by omega) (by simp only[Nat.zero_add] at Bn;omega);refine Ny _ _ (by rw[Dm,yf];exact ar) ?_;have Bo:df Γ s a (w.drew.alloc (.cells (us.toArray++Builtin.zeroCells z'.cells (grownCap w m 0 el-m)) el)) β I :=
             hr.grow (((Ds.refl _ _).drew).alloc (afY _) _) (fun b h=>h) (fun b h => .inl h)
            have qZ:(w.drew.alloc (.cells (us.toArray++Builtin.zeroCells z'.cells (grownCap w m 0 el-m)) el)).heap[w.heap.size]? = some (.cells (us.toArray++Builtin.zeroCells z'.cells (grownCap w m 0 el-m)) el (0,0)):=heap_alloc_new w.drew _;have DD:=grownCap_ge w m 0 el;have o0:∀(j:Nat) p,(([]:List PV)++qs)[j]? = some p→∃u,(us.toArray++Builtin.zeroCells z'.cells (grownCap w m 0 el-m))[j]? = some u∧u.oneCell'=true∧Rd I (w.drew.alloc (.cells (us.toArray++Builtin.zeroCells z'.cells (grownCap w m 0 el-m)) el)) p u:=by
             intro j p hp;simp only[List.nil_append] at hp;have hj:j<us.length:=by rw[←uT.1];exact(afQ.1 hp).1
             obtain⟨q1,q2⟩:=uT.2 j p us[j] hp (afO hj);refine⟨us[j],by rw[aiN (by simpa using hj)];simp[hj],q2.j9 q1,q2.mono (fun _ h=>h) (fun b o hI=>hZ (Below.heap_alloc w.drew _ b (hr.ib b hI)) o)⟩
            refine l9 Bo (ob:=some w.heap.size) vf w6 w7 (fun b hb => ?_) (tt qZ o0 (by simp)) (.inr ⟨w.heap.size,grownCap w m 0 el,rfl,by simp,by simpa using DD,el,_,by unfold World.shape?;rw[qZ],?_⟩)
            ·injection hb with hb;subst hb
             exact⟨by simp,fun hI=>ais _ (hr.ib _ hI),(.inl hr.aH.size),fun x hx e=>ais _ (hr.lb x _ (eV.1 hx).1 e)⟩
            ·simp only[Array.size_append,List.size_toArray,yg,size_zeroCells,Hf,D8,lT];rw[←agF];have:m+(grownCap w m 0 el-m)=grownCap w m 0 el:=by omega
             rw[this];omega
         ·
          have QJ:Γ.Nw b:=hr.new r b yi (.inl T1) ot;have Mw:=((hr.aG.1 r _ oz).2 b ot);obtain⟨arr,Bm,hg,Fe,Ag⟩:=vG KP ot;have T2:w.shape? b=some (Bm,arr.size):=by unfold World.shape?;rw[hg]
          have Fj:nx=arr.size:=by rw[T2] at D7;injection D7 with D7;injection D7 with h1 h2;exact h2.symm
          subst Fj;rcases aiB m with Jb|Jb
          ·skip
           subst Jb;have o4:qs=[]:=afP (by simpa using Ea);subst o4;refine Ny _ _ (by rw[Dm,yf];exact ra hu Hl (hT el de oW) _ _ len cap Q3) ?_;exact l9 hr (ob:=some b) vf w6 w7 (fun b' fw=>by injection fw with fw;subst fw;exact⟨Mw.1,Mw.2,QJ,WA b ot⟩)
            (tt hg (fun j p hp=>Ag j p (by simpa using hp)) (by simp)) (.inr ⟨b,cap,rfl,rfl,Q3,Bm,_,T2,q8⟩)
          ·skip
           have T3:∀u∈us,u.oneCell'=true:=fun u Jj=>by
            obtain⟨j,hj⟩:=ahJ.1 Jj;have QI:j<qs.length:=by rw[uT.1];exact(afQ.1 hj).1
            obtain⟨q1,q2⟩:=uT.2 j _ u (afO QI) hj;exact q2.j9 q1
           have T4:len*i.size=ps.length:=by rw[D8,←lT];exact g1.symm
           have Zo:cap*sz≤arr.size:=by omega
           by_cases tu:len+m≤cap
           ·have Ob:len*i.size+us.length≤arr.size:=by
             have h3:(len+m)*sz≤cap*sz:=afU _ tu;rw[agF] at h3;rw[yg,D8,←lT];omega
            have ar:=yo (P:=P) (w:=w) hu Hl hi hz o.type b len cap arr hg m us Dx yg T3 Jb NC tu Ob (by omega) WC;refine Ny _ _ (by rw[Dm,yf];exact ar) ?_;have Oc:(arr.toList.take (len*i.size)++us++arr.toList.drop (len*i.size+us.length)).toArray.size=arr.size:=by simp;omega
            have oX:∀j,(arr.toList.take (len*i.size)++us++arr.toList.drop (len*i.size+us.length)).toArray[j]? = if len*i.size≤j∧j<len*i.size+us.length then us[j-len*i.size]? else arr[j]? := by intro j;have:=jN arr.toList (len*i.size) us (by simp;omega) j;unfold eP at this;rw[←ahK] at this;simp only[List.getElem?_toArray];rw[this];simp only[Array.getElem?_toList]
            have HB:∀(j:Nat) p,(ps++qs)[j]? = some p→∃u,(arr.toList.take (len*i.size)++us++arr.toList.drop (len*i.size+us.length)).toArray[j]? = some u∧u.oneCell'=true∧Rd I w p u:=by
             intro j p hp;rw[oX j];rw[agZ] at hp;by_cases hj:j<ps.length
             ·rw[ag9 hj] at hp;rw[ag7 (by omega)];exact Ag j p hp
             ·rw[ag7 hj] at hp;have T5:=(afQ.1 hp).1;have Od:j-ps.length<us.length:=by rw[←uT.1];exact T5
              rw[ag9 (by omega),T4];obtain⟨q1,q2⟩:=uT.2 _ p us[j-ps.length] hp (afO Od);exact⟨_,afO Od,q2.j9 q1,q2⟩
            have Zp:=hr.write (sc' := .pure (ps++qs)) (agA Rc Γ.small) oz ot hg Oc (fun j e' gQ=>by
             simp only[SC.rI,List.getElem?_map] at gQ;cases hp:(ps++qs)[j]? with
             |none=>simp[hp] at gQ
             |some p =>simp[hp] at gQ;subst gQ;exact HB j p hp)
            have JA:dx r (aS.set s.aG r (.pure (ps++qs)))=dx r s.aG:=zt r _ s.aG;have T6:kill r ⟨s.env,aS.set s.aG r (.pure (ps++qs))⟩=kill r s:=by unfold kill;simp only[JA]
            have Oe:=l9 Zp (r:=r) (d:=d) (len:=len+m) (sz:=sz) (out:=ps++qs) (v := .slice (some ⟨b,0,none⟩) (len+m) cap) (ob:=some b) vf w6 (by rw[JA];exact w7)
             (fun b' fw=>by
              injection fw with fw;subst fw
              rw[JA];exact⟨by simpa[World.setRow] using Mw.1,Mw.2,QJ,WA b ot⟩)
             (tt (setRow_heap w b arr _ Bm (0,0) hg) (fun j p hp=>by obtain⟨u,q1,q2,q3⟩:=HB j p hp;exact⟨u,q1,q2,q3.mono (fun _ h=>h) (fun b' o' hI=>hZ (setRow_other w b b' _ (fun e=>Mw.2 (e ▸ hI))) o')⟩) (by simp))
             (.inr ⟨b,cap,rfl,rfl,tu,Bm,arr.size,by rw[rY w b b _ arr Bm (0,0) hg Oc];exact T2,q8⟩)
            rw[T6] at Oe;exact Oe
           ·have Og:(arr.toList.take ps.length).length=len*i.size:=by simp;omega
            have holds:∀(j:Nat) v,(arr.toList.take ps.length)[j]? = some v→w.cell? ((⟨b,0,none⟩:Addr).add j)=some v:=by
             intro j v hv;rw[gD,agQ,cell_of_row w b j arr Bm (0,0) hg];rw[agG] at hv;split at hv
             ·simpa using hv
             ·cases hv
            have ar:=yp (P:=P) (w:=w) t1 t2 o.type el i z' hu Hl hi hz ⟨b,0,none⟩ len cap (arr.toList.take ps.length) Og holds m us Dx Jb NC (by omega) (by omega) WC (growslice_fits (by omega) Bn);refine Ny _ _ (by rw[Dm,yf];exact ar) ?_;generalize hW:((arr.toList.take ps.length).toArray++us.toArray++Builtin.zeroCells z'.cells (grownCap w (len+m) cap el-(len+m)):Array Value)=narr;have Bo:df Γ s a (w.drew.alloc (.cells narr el)) β I :=
             hr.grow (((Ds.refl _ _).drew).alloc (afY _) _) (fun b h=>h) (fun b h => .inl h)
            have qZ:(w.drew.alloc (.cells narr el)).heap[w.heap.size]? = some (.cells narr el (0,0)):=heap_alloc_new w.drew _;have DD:=grownCap_ge w (len+m) cap el;have Eb:∀{p:PV} {u:Value},Rd I w p u→Rd I (w.drew.alloc (.cells narr el)) p u:=fun h=>h.mono (fun _ h=>h) (fun b o hI=>hZ (Below.heap_alloc w.drew _ b (hr.ib b hI)) o)
            have o0:∀(j:Nat) p,(ps++qs)[j]? = some p→∃u,narr[j]? = some u∧u.oneCell'=true∧Rd I (w.drew.alloc (.cells narr el)) p u:=by
             intro j p hp;have I8:(arr.toList.take ps.length).length=ps.length:=by simp;omega
             have Oh:narr[j]? = if j<ps.length then arr[j]? else if j<ps.length+us.length then us[j-ps.length]? else (Builtin.zeroCells z'.cells (grownCap w (len+m) cap el-(len+m)))[j-(ps.length+us.length)]? := by
              rw[←hW,aij,aij];simp only[Array.size_append,List.size_toArray,I8,List.getElem?_toArray];by_cases hj:j<ps.length
              ·rw[ag9 (by omega),ag9 hj,ag9 hj,agG,ag9 hj];simp
              ·by_cases HC:j<ps.length+us.length
               ·rw[ag9 HC,ag7 hj,ag7 hj,ag9 HC]
               ·rw[ag7 HC,ag7 hj,ag7 HC]
             rw[Oh];rw[agZ] at hp;by_cases hj:j<ps.length
             ·rw[ag9 hj] at hp ⊢;obtain⟨u,q1,q2,q3⟩:=Ag j p hp;exact⟨u,q1,q2,Eb q3⟩
             ·rw[ag7 hj] at hp ⊢;have T5:=(afQ.1 hp).1;have Od:j-ps.length<us.length:=by rw[←uT.1];exact T5
              rw[ag9 (by omega)];obtain⟨q1,q2⟩:=uT.2 _ p us[j-ps.length] hp (afO Od);exact⟨_,afO Od,q2.j9 q1,Eb q2⟩
            refine l9 Bo (ob:=some w.heap.size) vf w6 w7 (fun b' fw => ?_) (tt qZ o0 (by simp)) (.inr ⟨w.heap.size,grownCap w (len+m) cap el,rfl,rfl,DD,el,_,by unfold World.shape?;rw[qZ],?_⟩)
            ·injection fw with fw;subst fw
             exact⟨by simp,fun hI=>ais _ (hr.ib _ hI),(.inl hr.aH.size),fun x hx e=>ais _ (hr.lb x _ (eV.1 hx).1 e)⟩
            ·rw[←hW];simp only[Array.size_append,List.size_toArray,Og,yg,size_zeroCells,Hf,D8,lT];rw[←agF,←agF];have:len+m+(grownCap w (len+m) cap el-(len+m))=grownCap w (len+m) cap el:=by omega
             rw[this];omega
       ·cases aK
      ·cases aK
     ·cases aK
    ·cases aK
  ·cases aK
 ·cases aK
def xa(T:kL)(n:Nat)(o:Oper)(h:Hint)(s:St):Option (St×List Prop) :=
 match KS T n o h s with
 |some x=>some x
 |none=>Br T n o h s
theorem tx(hT:n8 P T)(hs:∀r,bB Γ.sin r→Γ.n≤r)(hr:Rel Γ s a w)(aK:xa T Γ.n o h s=some (s',ob))(bT:dK ob){K:Act→World→Prop}{Q:Exit→Act→World→Prop}
  (hk:∀a' w',Rel Γ s' a' w'→K a' w'):o.wp P a w K Q:=by
 unfold xa at aK;split at aK
 ·rename_i x hx;injection aK with aK
  subst aK;exact DE hT hs hr hx bT hk
 ·exact Bs hT hs hr aK bT hk
end
end Go.Proofs.YtcpnocgollpbhaaGreatDoor.Sym
