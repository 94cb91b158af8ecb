/- Bezout and Accepts of the program answer as the reference does. -/
import Derived.Test.YtboilcfohmmpbaaGreatDoorYSymM
namespace Go.Proofs.YtboilcfohmmpbaaGreatDoor.Sym
open Go Go.RowKit
section
variable {P:Program} {T:Tab} {Γ:Ctx} {s s':St} {a:Act} {w:World} {β:Nat→Option Nat} {I:Nat→Prop} {o:Oper} {h:Hint} {ob:List Prop}
theorem RelB.ext(h:RelB Γ s a w β I){sto':Sto}{β':Nat→Option Nat}{N:Nat→Prop}
  (hget:∀x,¬N x→sto'.get x=s.sto.get x) (hN:∀x,N x→¬dom s.sto x∧(¬dom Γ.sin x∨gv x)) (hβ:∀x,¬N x→β' x=β x)
  (hb:∀x b,N x→β' x=some b→b<w.heap.size∧¬I b∧Γ.Nw b∧(∀r,dom s.sto r→β r≠some b)∧∀y,N y→β' y=some b→x=y)
  (hsc:∀x sc,N x→sto'.get x=some sc→RB β' (dom sto') I w x sc.evs):RelB Γ ⟨s.env,sto'⟩ a w β' I:=by
 have hnN:∀x,dom s.sto x→¬N x:=fun x hx hn=>(hN x hn).1 hx
 have hβ':∀x,dom s.sto x→β' x=β x:=fun x hx=>hβ x (hnN x hx)
 have hL:∀x,dom s.sto x→dom sto' x:=fun x hx=>by unfold dom;rw[hget x (hnN x hx)];exact hx
 have hback:∀x,dom sto' x→¬N x→dom s.sto x:=fun x hx hn=>by unfold dom at hx;rw[hget x hn] at hx;exact hx
 refine⟨fun t e he=>(h.env t e he).mono hβ' hL (fun _ h=>h) (fun _ _ _=>rfl) (fun _ _ _ _=>rfl),⟨fun x sc hx => ?_,fun x y b hx hy e1 e2 => ?_⟩,fun x hx hs hg => ?_,fun x b hx hs hb' => ?_,h.ib,h.ii,h.keep,h.size,h.defers⟩
 ·have hx:sto'.get x=some sc:=hx
  by_cases hn:N x
  ·exact⟨hsc x sc hn hx,fun b hb'=>⟨(hb x b hn hb').1,(hb x b hn hb').2.1⟩⟩
  ·rw[hget x hn] at hx
   have hd:dom s.sto x:=by unfold dom;rw[hx];rfl
   obtain⟨g1,g2⟩:=h.sto.1 x sc hx
   exact⟨g1.mono (hβ' x hd) (fun _ _=>rfl) hβ' hL (fun _ h=>h) (fun _ _ _=>rfl) (fun _ _ _ _=>rfl),fun b hb'=>g2 b (by rw[←hβ' x hd];exact hb')⟩
 ·by_cases h1:N x
  ·by_cases h2:N y
   ·exact(hb x b h1 e1).2.2.2.2 y h2 e2
   ·have hd:=hback y hy h2
    rw[hβ' y hd] at e2
    exact absurd e2 ((hb x b h1 e1).2.2.2.1 y hd)
  ·have hd1:=hback x hx h1
   by_cases h2:N y
   ·rw[hβ' x hd1] at e1
    exact absurd e1 ((hb y b h2 e2).2.2.2.1 x hd1)
   ·have hd:=hback y hy h2
    rw[hβ' x hd1] at e1
    rw[hβ' y hd] at e2
    exact h.sto.2 x y b hd1 hd e1 e2
 ·by_cases h1:N x
  ·rcases(hN x h1).2 with h2|h2
   ·exact absurd hs h2
   ·exact absurd h2 hg
  ·have hd1:=hback x hx h1
   rw[hβ' x hd1];exact h.par x hd1 hs hg
 ·by_cases h1:N x
  ·exact(hb x b h1 hb').2.2.1
  ·have hd1:=hback x hx h1
   rw[hβ' x hd1] at hb';exact h.new x b hd1 hs hb'
theorem RelB.moved(h:RelB Γ s a w β I){w':World}{M I':Nat→Prop}(hk:Keeps M w w')(hM1:∀b,I b→¬M b)(hM2:∀x b,dom s.sto x→β x=some b→¬M b)
  (hM3:∀b,b<Γ.w0.heap.size→M b→Γ.M b) (hI1:∀b,I b→I' b) (hI2:∀b,I' b→I b∨fresh w w' b∨(Γ.Nw b∧b<w.heap.size∧∀x,dom s.sto x→β x≠some b)):RelB Γ s a w' β I':=by
 have hw:∀b o,I b→w'.cell? ⟨b,o,none⟩=w.cell? ⟨b,o,none⟩:=fun b o hI=>cell_heap (hk.block b (h.ib b hI) (hM1 b hI)) o
 have hsh:∀r b,dom s.sto r→β r=some b→w'.shape? b=w.shape? b:=fun r b hd hb'=>hk.shape b (h.lb r b hd hb')
 refine⟨fun t e he=>(h.env t e he).mono (fun _ _=>rfl) (fun _ h=>h) hI1 hw hsh,⟨fun x sc hx => ?_,h.sto.2⟩,h.par,h.new,fun b hI => ?_,fun b hI => ?_,h.keep.trans hk hM3,h.size,h.defers⟩
 ·obtain⟨k1,k2⟩:=h.sto.1 x sc hx
  have hdx:dom s.sto x:=by unfold dom;rw[hx];rfl
  refine⟨k1.mono rfl (fun b hb'=>hk.block b (h.lb x b hdx hb') (hM2 x b hdx hb')) (fun _ _=>rfl) (fun _ h=>h) hI1 hw hsh,fun b hb'=>⟨Nat.lt_of_lt_of_le (k2 b hb').1 hk.size,fun hI => ?_⟩⟩
  rcases hI2 b hI with h1|h1|h1
  ·exact(k2 b hb').2 h1
  ·have:=(k2 b hb').1;have:=h1.1;omega
  ·exact h1.2.2 x hdx hb'
 ·rcases hI2 b hI with h1|h1|h1
  ·exact Nat.lt_of_lt_of_le (h.ib b h1) hk.size
  ·exact h1.2
  ·exact Nat.lt_of_lt_of_le h1.2.1 hk.size
 ·rcases hI2 b hI with h1|h1|h1
  ·rcases h.ii b h1 with h3|h3
   ·exact .inl h3
   ·exact .inr (h3.imp (fun h3=>⟨h3.1,Nat.lt_of_lt_of_le h3.2 hk.size⟩) id)
  ·exact .inr (.inl ⟨Nat.le_trans h.keep.size h1.1,h1.2⟩)
  ·exact .inr (h1.1.imp (fun h2=>⟨h2,Nat.lt_of_lt_of_le h1.2.1 hk.size⟩) id)
def stepRel(n t j:Nat)(xs:List (Option (List PV)))(s:St):Option (St×List Prop) :=
 match s.env.get t with
 |some (.row d 0 len sz)=>match s.sto.get d,s.sto.get0 999999 with
  |some (.pure ps),some (.heap _)=>bif Nat.blt d n then
    some (⟨(t,.mrow j len sz)::(kill d s).env,Sto.hput (kill d s).sto xs⟩,[s.sto.hp.length=j,s.sto.hp++[some ps]=xs]) else none
  |_,_=>none
 |_=>none
theorem stepRel_sound(hs:∀r,dom Γ.sin r→Γ.n≤r){t j:Nat}{xs:List (Option (List PV))}(hr:Rel Γ s a w)(hst:stepRel Γ.n t j xs s=some (s',ob))(hob:Alls ob):Rel Γ s' a w:=by
 obtain⟨β,I,hr⟩:=hr
 unfold stepRel at hst
 split at hst
 ·rename_i d len sz het
  split at hst
  ·rename_i ps ys hps hheap
   cases hb:Nat.blt d Γ.n with
   |false=>simp[hb] at hst
   |true =>
    simp only[hb,cond_true] at hst
    have hdn:d<Γ.n:=Nat.le_of_ble_eq_true hb
    have hd9:d<999999:=Nat.lt_of_lt_of_le hdn Γ.small
    injection hst with hst;injection hst with h1 h2
    subst h1;subst h2
    obtain⟨g1,g2⟩:=hob.cons
    have g2:s.sto.hp++[some ps]=xs:=g2
    have hk:=hr.kill d
    have hkh:(killSto d s.sto).get0 999999=some (.heap ys):=by
     rw[killSto_get0,if_neg (by omega),hheap]
     simp only[Option.map_some,killSC,show Nat.blt d 1000000=true from Nat.ble_eq_true_of_le (by omega),cond_true]
    have hkp:(killSto d s.sto).hp=s.sto.hp:=by rw[killSto_hp,if_pos (by omega)]
    have hdd:dom s.sto d:=by unfold dom;rw[hps];rfl
    have hnd:¬dom (killSto d s.sto) (hc j):=fun h=>by
     unfold dom at h
     rw[Sto.get_hc,hkp] at h
     unfold heapAt at h
     rw[List.getElem?_eq_none (by omega)] at h
     cases h
    have hget:∀x,¬x=hc j→(Sto.hput (killSto d s.sto) xs).get x=(killSto d s.sto).get x:=fun x hx =>
     Sto.hput_get hkh x (fun k hk'=>by
      have hkj:k≠j:=fun e=>hx (by rw[hk',e])
      rw[hkp,←g2]
      unfold heapAt
      by_cases hlt:k<s.sto.hp.length
      ·rw[List.getElem?_append_left hlt]
      ·rw[List.getElem?_eq_none (by simp;omega),List.getElem?_eq_none (by omega)])
    have hnew:(Sto.hput (killSto d s.sto) xs).get (hc j)=some (.pure ps):=by
     rw[Sto.get_hc,Sto.hput_hp hkh,←g2]
     unfold heapAt
     rw[List.getElem?_append_right (by omega),g1]
     simp
    have hdj:d≠hc j:=by unfold hc;omega
    have hx:=hk.ext (sto':=Sto.hput (killSto d s.sto) xs) (β':=fun x=>if x=hc j then β d else β x) (N:=fun x=>x=hc j) hget
     (fun x hx=>by subst hx;exact⟨hnd,.inr (by unfold gv hc;omega)⟩) (fun x hx=>if_neg hx)
     (fun x b hx hbx=>by
      subst hx
      have hbx:β d=some b:=by simpa using hbx
      exact⟨((hr.sto.1 d _ hps).2 b hbx).1,((hr.sto.1 d _ hps).2 b hbx).2,hr.new d b hdd (.inl (fun h=>absurd (hs d h) (Nat.not_le_of_lt hdn))) hbx,
       fun r hrd e=>(dom_kill.1 hrd).2 (hr.sto.2 r d b (dom_kill.1 hrd).1 hdd e hbx),fun y hy _=>hy.symm⟩)
     (fun x sc hx hg=>by
      subst hx
      rw[hnew] at hg
      injection hg with hg;subst hg
      exact RB.closed (sc := .pure ps) rfl (hr.sto.1 d _ hps).1 (by simp) (fun _ h=>h))
    refine⟨_,I,hx.setE ?_⟩
    obtain⟨_,hv⟩:=hr.env t _ het
    exact⟨by unfold dom;rw[hnew];rfl,by simpa using hv⟩
  ·cases hst
 ·cases hst
theorem Rel.newheap(hr:Rel Γ s a w)(hn:s.sto.get0 999999=none):Rel Γ ⟨s.env,(999999,.heap [])::s.sto⟩ a w:=by
 refine Rel.like (s:=s) ⟨fun _=>rfl,fun r => ?_⟩ hr
 show Sto.get ((999999,.heap [])::s.sto) r=s.sto.get r
 rcases num3 r with h|rfl|⟨j,rfl⟩
 ·rw[Sto.get_lt h,Sto.get_lt h]
  simp only[Sto.get0,beq_ne (show 999999≠r by omega),cond_false]
 ·rw[Sto.get_mid,Sto.get_mid]
 ·rw[Sto.get_hc,Sto.get_hc]
  unfold Sto.hp
  rw[hn]
  rfl
theorem RelB.adoptM(hr:RelB Γ s a w β I)(hs:∀r,dom Γ.sin r→Γ.n≤r){t d sz:Nat}(he:s.env.get t=some (.pv .nilS))(hd:s.sto.get d=none)(hdn:d<Γ.n) :
  Rel Γ ⟨(t,.row d 0 0 1)::s.env,(d,.mats [] sz)::s.sto⟩ a w:=by
 have hnd:¬dom s.sto d:=by unfold dom;rw[hd];simp
 have hns:¬dom Γ.sin d:=fun h=>absurd (hs d h) (Nat.not_le_of_lt hdn)
 have hv:Rd I w .nilS (a.tmps.getD t undef):=hr.env t _ he
 have hd9:d<999999:=Nat.lt_of_lt_of_le hdn Γ.small
 have h2:=hr.site (d:=d) (sc := .mats [] sz) hd9 hnd hns (β':=fun x=>if x=d then none else β x) (fun x hx=>if_neg hx) (fun b hb'=>by simp at hb') (.inl ⟨by simp,rfl⟩)
 refine⟨_,_,h2.setE ⟨(dom_cons hd9).2 (.inl rfl),.inl ⟨by simp,rfl,?_⟩⟩⟩
 generalize a.tmps.getD t undef=v at hv
 cases hv;rfl
def stepBuildM(T:Tab)(n:Nat)(o:Oper)(s:St):Option (St×List Prop) :=
 match o.op,o.dst with
 |.buildSlice t k parts,some d=>match T.get t,parts.toList with
  |some dt,[(0,x)]=>match dt.kind with
   |.slice e=>match T.get e,evalO (kill d s).env x with
    |some de,some (.mrow j len sz)=>bif Nat.beq k 1&&Nat.beq de.size 1&&Nat.blt d n then addRes (kill d s) (some d) ⟨.row d 0 1 1,some (.mats [(j,len)] sz),[]⟩ else none
    |_,_=>none
   |_=>none
  |_,_=>none
 |_,_=>none
theorem stepBuildM_sound(hT:TOk P T)(hs:∀r,dom Γ.sin r→Γ.n≤r)(hr:Rel Γ s a w)(hst:stepBuildM T Γ.n o s=some (s',ob)){K:Act→World→Prop}{Q:Exit→Act→World→Prop}
  (hk:∀a' w',Rel Γ s' a' w'→K a' w'):o.wp P a w K Q:=by
 obtain⟨β,I,hr⟩:=hr
 unfold stepBuildM at hst
 split at hst
 ·rename_i t k parts d hop hdst
  split at hst
  ·rename_i dt x hdt hparts
   split at hst
   ·rename_i e hkd
    split at hst
    ·rename_i de j len sz hde hx
     cases hb:(Nat.beq k 1&&Nat.beq de.size 1&&Nat.blt d Γ.n) with
     |false=>simp[hb] at hst
     |true =>
      simp only[hb,cond_true] at hst
      simp only[Bool.and_eq_true] at hb
      have hk1:k=1:=Nat.eq_of_beq_eq_true hb.1.1
      have hsz1:de.size=1:=Nat.eq_of_beq_eq_true hb.1.2
      subst hk1
      obtain⟨un,hu,_,hf⟩:=(hT t dt hdt).under
      rw[hkd] at hf
      have hf:un = .slice e:=hf
      subst hf
      have hr1:=hr.kill d
      obtain⟨z,hz,_,hzs,_⟩:=(hT e de hde).run_zero w
      have hex:=hr1.evO x _ hx
      obtain⟨u,hu1,hu2,hu3⟩:∃u,a.eval x=u∧u.oneCell'=true∧u.cells = #[u]:=by
       obtain⟨_,⟨_,_,hv⟩|⟨b,c,_,hv,_⟩⟩:=hex
       ·exact⟨_,hv,rfl,rfl⟩
       ·exact⟨_,hv,rfl,rfl⟩
      have hp:parts = #[(0,x)]:=arr1 hparts
      subst hp
      have hrun:(Instr.buildSlice t 1 (#[(0,x)].map fun (i,x)=>(i,a.eval x))).run P w = .ok (.slice (some ⟨w.heap.size,0,none⟩) 1 1) (w.alloc (.cells #[u] e)):=by
       have hzz:z.cells.size=1:=by rw[hzs,hsz1]
       have hfill:∀f:Nat→Value,Instr.fill (fun i=>some (i*1,1)) ((Array.range 1).map f) [(0,u)]=some #[u]:=fun f=>by
        have hr1:(Array.range 1).map f = #[f 0]:=Array.ext' (by rw[Array.toList_map,Array.toList_range];rfl)
        rw[hr1]
        unfold Instr.fill
        simp[hu3,Instr.fill,Array.zipIdx]
       simp only[Instr.buildSlice,Sem.run_bind,run_underlying hu,Result.andThen_ok,(hT e de hde).run_sizeOf w,hsz1]
       simp only[show ¬(1*1>2^24) by omega,if_false,show ¬(1*1=0) by omega,Sem.run_bind,hz,Sem.run_pure,Result.andThen_ok]
       have:(#[(0,x)].map fun (i,x)=>(i,a.eval x)).toList=[(0,u)]:=by simp[hu1]
       rw[this,hfill]
       rfl
      have hpost:Post β (dom (kill d s).sto) I w (some d) ⟨.row d 0 1 1,some (.mats [(j,len)] sz),[]⟩ (.slice (some ⟨w.heap.size,0,none⟩) 1 1) (w.alloc (.cells #[u] e)):=by
       refine Post.new (el:=e) (arr := #[u]) hr1.lb hr1.ib (fun i c hj => ?_) (.inr ⟨1,1,rfl,rfl,by simp⟩)
       have hj:([EV.mrow j len sz]:List EV)[i]? = some c:=hj
       cases i with
       |succ i=>simp at hj
       |zero =>
        simp at hj;subst hj
        exact⟨u,rfl,hu2,hu1 ▸ hex⟩
      rw[←hdst] at hst hpost
      have:=(rel_post hs hr1 (by rw[hdst];exact hb.2) hpost hst).1
      unfold Oper.wp
      rw[show (execOp a.eval o).run P w = .ok (.value (.slice (some ⟨w.heap.size,0,none⟩) 1 1)) (w.alloc (.cells #[u] e)) from by
       unfold execOp
       simp only[hop,Sem.run_bind,hrun,Result.andThen_ok]
       rfl]
      exact hk _ _ this
    ·cases hst
   ·cases hst
  ·cases hst
 ·cases hst
theorem app_endM(hr:RelB Γ s a w β I){r d len sz:Nat}{sc:SC}{v:Value}(hdn:d<Γ.n)(hnsd:¬dom Γ.sin d)(hndk:¬dom (killSto r s.sto) d){ob:Option Nat}
  (hb:∀b,ob=some b→b<w.heap.size∧¬I b∧Γ.Nw b∧∀x,dom (killSto r s.sto) x→β x≠some b)
  (hrb:RB (fun x=>if x=d then ob else β x) (fun x=>dom (killSto r s.sto) x∨x=d) I w d sc.evs)
  (hv:(ob=none∧len=0∧v = .slice none 0 0)∨∃b c,ob=some b∧v = .slice (some ⟨b,0,none⟩) len c∧len≤c∧∃el n,w.shape? b=some (el,n)∧0+c*sz≤n) :
  Rel Γ ⟨setD (kill r s).env (some d) (.row d 0 len sz),(d,sc)::(kill r s).sto⟩ (a.put (some d) v) w:=by
 have h1:=hr.kill r
 have hd9:d<999999:=Nat.lt_of_lt_of_le hdn Γ.small
 have h2:=h1.site (d:=d) (sc:=sc) hd9 hndk hnsd (β':=fun x=>if x=d then ob else β x) (fun x hx=>if_neg hx) (fun b hb'=>hb b (by simpa using hb')) hrb
 refine⟨_,_,h2.put (dst:=some d) (fun d' hd'=>by injection hd' with hd';rw[←hd'];exact hdn) ⟨(dom_cons hd9).2 (.inl rfl),?_⟩⟩
 simpa using hv
def stepAppM(T:Tab)(n:Nat)(o:Oper)(h:Hint)(s:St):Option (St×List Prop) :=
 match o.op,o.dst,h with
 |.call c,some d,.mapp len' hs'=>match c.callee,c.args.toList,c.argTypes.toList with
  |.builtin .append,[x,y],[t1,t2]=>bif Nat.beq t1 t2&&Nat.blt d n then
    match T.get t1 with
    |some dt=>match dt.kind with
     |.slice el=>match T.get el,evalO s.env x,evalO s.env y with
      |some de,some (.row r 0 len 1),some (.row q 0 1 1)=>match s.sto.get r,s.sto.get q,(kill r s).sto.get d with
       |some (.mats hs sz),some (.mats [(j,l)] sz'),none=>bif Nat.beq de.size 1&&Nat.beq sz sz'&&Nat.blt r n then
         some (⟨setD (kill r s).env (some d) (.row d 0 len' 1),(d,.mats hs' sz)::(kill r s).sto⟩,
          [hs.length=len,len+1=len',hs++[(j,l)]=hs',len'*de.bytes≤140737488355328,len'<9223372036854775808])
        else none
       |_,_,_=>none
      |_,_,_=>none
     |_=>none
    |none=>none
   else none
  |_,_,_=>none
 |_,_,_=>none
theorem stepAppM_sound(hT:TOk P T)(hs:∀r,dom Γ.sin r→Γ.n≤r)(hr:Rel Γ s a w)(hst:stepAppM T Γ.n o h s=some (s',ob))(hob:Alls ob){K:Act→World→Prop}{Q:Exit→Act→World→Prop}
  (hk:∀a' w',Rel Γ s' a' w'→K a' w'):o.wp P a w K Q:=by
 obtain⟨β,I,hr⟩:=hr
 unfold stepAppM at hst
 split at hst
 ·rename_i c d len' hs' hop hdst
  split at hst
  ·rename_i x y t1 t2 hcl hargs hats
   cases hb1:(Nat.beq t1 t2&&Nat.blt d Γ.n) with
   |false=>simp[hb1] at hst
   |true =>
    simp only[hb1,cond_true] at hst
    simp only[Bool.and_eq_true] at hb1
    have h12:t1=t2:=Nat.eq_of_beq_eq_true hb1.1
    have hdn:d<Γ.n:=Nat.le_of_ble_eq_true hb1.2
    have hd9:d<999999:=Nat.lt_of_lt_of_le hdn Γ.small
    subst h12
    split at hst
    ·rename_i dt hdt
     split at hst
     ·rename_i el hk'
      obtain⟨un,hu,_,hf⟩:=(hT t1 dt hdt).under
      rw[hk'] at hf
      have hf:un = .slice el:=hf
      subst hf
      split at hst
      ·rename_i de r len q hde hx hy
       split at hst
       ·rename_i hl sz j l sz' hmr hmq hnone
        cases hb2:(Nat.beq de.size 1&&Nat.beq sz sz'&&Nat.blt r Γ.n) with
        |false=>simp[hb2] at hst
        |true =>
         simp only[hb2,cond_true] at hst
         simp only[Bool.and_eq_true] at hb2
         have hsz1:de.size=1:=Nat.eq_of_beq_eq_true hb2.1.1
         have hszz:sz=sz':=Nat.eq_of_beq_eq_true hb2.1.2
         have hrn:r<Γ.n:=Nat.le_of_ble_eq_true hb2.2
         have hr9:r<999999:=Nat.lt_of_lt_of_le hrn Γ.small
         subst hszz
         injection hst with hst;injection hst with h1 h2
         subst h1;subst h2
         obtain⟨g1,hob⟩:=hob.cons
         obtain⟨g3,hob⟩:=hob.cons
         obtain⟨g2,hob⟩:=hob.cons
         obtain⟨g5,g6⟩:=hob.cons
         subst g3
         have g6:len+1<9223372036854775808:=g6
         subst g2
         obtain⟨i,hi,hi2,hi3,z,hz,_,hzs,_⟩:=(hT el de hde).info
         rw[hsz1] at hi2
         obtain⟨hdr,hrow⟩:=hr.evO x _ hx
         have hrb:=(hr.sto.1 r _ hmr).1
         have hnsr:¬dom Γ.sin r:=fun h=>by have:=hs r h;omega
         have hnsd:¬dom Γ.sin d:=fun h=>absurd (hs d h) (Nat.not_le_of_lt hdn)
         have hndk:¬dom (kill r s).sto d:=by unfold dom;rw[hnone];simp
         obtain⟨hdq,⟨_,h10,_⟩|⟨b2,c2,hbq,hvy,_⟩⟩:=hr.evO y _ hy
         ·cases h10
         obtain⟨ar2,el2,hg2,_,hc2⟩:=(hr.sto.1 q _ hmq).1.block hbq
         obtain⟨u,hu0,hu1,hu2⟩:=hc2 0 (.mrow j l sz) rfl
         have hus':∀(k:Nat) v,[u][k]? = some v→w.cell? ((⟨b2,0,none⟩:Addr).add k)=some v:=fun k v hv=>by
          cases k with
          |succ k=>simp at hv
          |zero =>
           simp at hv;subst hv
           rw[add_addr,cell_of_row w b2 _ ar2 el2 (0,0) hg2];exact hu0
         have hus1:∀v∈[u],v.oneCell'=true:=fun v hv=>by simp at hv;subst hv;exact hu1
         have hul:[u].length=1*i.size:=by rw[hi2];rfl
         have hwp:∀v' w',(Builtin.append_ #[t1,t1] o.type #[a.eval x,a.eval y]).run P w = .ok v' w'→Rel Γ ⟨setD (kill r s).env (some d) (.row d 0 (len+1) 1),(d,.mats (hl++[(j,l)]) sz)::(kill r s).sto⟩ (a.put (some d) v') w'→o.wp P a w K Q:=by
          intro v' w' hrun hrel
          have hargs':=arr2 hargs
          have hats':=arr2 hats
          obtain⟨cl,args,ats⟩:=c
          simp only at hcl hargs' hats'
          subst hcl;subst hargs';subst hats'
          unfold Oper.wp execOp
          simp only[hop,resolve,invoke,builtin,Sem.run_bind,Sem.run_pure,Result.andThen_ok,List.map_toArray,List.map_cons,List.map_nil,hrun]
          show K (a.put o.dst v') w'
          rw[hdst]
          exact hk _ _ hrel
         have hbytes:(len+1)*i.bytes≤140737488355328:=by rw[hi3];exact g5
         have hmax:len+1≤maxLen:=by unfold maxLen;omega
         have hdk:∀b,β r=some b→∀x,dom (killSto r s.sto) x→β x≠some b:=fun b hb x hx e =>
          (dom_kill.1 hx).2 (hr.sto.2 x r b (dom_kill.1 hx).1 hdr e hb)
         have up:∀{β1:Nat→Option Nat} {w1:World} {k m:Nat} {v:Value},(∀z,z≠d→β1 z=β z)→(∀z b,dom s.sto z→β z=some b→w1.shape? b=w.shape? b)→RE β (dom s.sto) I w (.mrow k m sz) v→RE β1 (fun x=>dom (killSto r s.sto) x∨x=d) I w1 (.mrow k m sz) v:=by
          intro β1 w1 k m v hβ1 hsh hv
          have hne:hc k≠r:=by unfold hc;omega
          have hned:hc k≠d:=Nat.ne_of_gt (Nat.lt_of_lt_of_le hd9 (show 999999≤hc k by unfold hc;omega))
          obtain⟨e1,e2⟩:=hv
          refine⟨.inl (dom_kill.2 ⟨e1,hne⟩),?_⟩
          rw[hβ1 _ hned]
          rcases e2 with e2|⟨b,c,f1,f2,f3,f4,f5,f6,f7⟩
          ·exact .inl e2
          ·exact .inr ⟨b,c,f1,f2,f3,f4,f5,by rw[hsh _ b e1 f1];exact f6,f7⟩
         have evs_get:∀(k:Nat) e,(SC.mats (hl++[(j,l)]) sz).evs[k]? = some e→(∃p,hl[k]? = some p∧e = .mrow p.1 p.2 sz∧k<hl.length)∨(k=hl.length∧e = .mrow j l sz):=by
          intro k e he
          have he:((hl++[(j,l)]).map fun x=>EV.mrow x.1 x.2 sz)[k]? = some e:=he
          rw[List.getElem?_map] at he
          by_cases hk1:k<hl.length
          ·left
           rw[List.getElem?_append_left hk1,List.getElem?_eq_getElem hk1] at he
           simp only[Option.map_some,Option.some.injEq] at he
           exact⟨_,List.getElem?_eq_getElem hk1,he.symm,hk1⟩
          ·right
           rw[List.getElem?_append_right (by omega)] at he
           have hk2:k-hl.length=0:=by
            have:=(List.getElem?_eq_some_iff.1 (Option.map_eq_some_iff.1 he).choose_spec.1).1
            simp at this;omega
           rw[hk2] at he
           simp only[List.getElem?_cons_zero,Option.map_some,Option.some.injEq] at he
           exact⟨by omega,he.symm⟩
         rcases hrow with ⟨hbn,hl0,hvx⟩|⟨b,cap,hbr,hvx,hlc,elx,nx,hsh,hfit⟩
         ·subst hl0
          have hl0:hl=[]:=List.eq_nil_of_length_eq_zero g1
          subst hl0
          have hrun:=run_append_nil (P:=P) w t1 o.type el i z hu hi hz ⟨b2,0,none⟩ 1 c2 [u] hul hus' (by omega) (by omega) (by simp only[Nat.zero_add] at hbytes;omega)
          refine hwp _ _ (by rw[hvx,hvy];exact hrun) ?_
          have hgrow:RelB Γ s a (w.drew.alloc (.cells ([u].toArray++Builtin.zeroCells z.cells (grownCap w 1 0 el-1)) el)) β I :=
           hr.grow (((Bel.refl _ _).drew).alloc (Nat.le_refl _) _) (fun b h=>h) (fun b h => .inl h)
          have hnew:(w.drew.alloc (.cells ([u].toArray++Builtin.zeroCells z.cells (grownCap w 1 0 el-1)) el)).heap[w.heap.size]? = some (.cells ([u].toArray++Builtin.zeroCells z.cells (grownCap w 1 0 el-1)) el (0,0)):=heap_alloc_new w.drew _
          have hge:=grownCap_ge w 1 0 el
          refine app_endM hgrow (sc := .mats ([]++[(j,l)]) sz) (ob:=some w.heap.size) hdn hnsd hndk (fun b hb => ?_) (.inr ⟨w.heap.size,_,el,by simp,hnew,fun k e he => ?_⟩) (.inr ⟨w.heap.size,grownCap w 1 0 el,rfl,by simp,by simpa using hge,el,_,by unfold World.shape?;rw[hnew],?_⟩)
          ·injection hb with hb;subst hb
           exact⟨by simp,fun hI=>Nat.lt_irrefl _ (hr.ib _ hI),(.inl hr.keep.size),fun x hx e=>Nat.lt_irrefl _ (hr.lb x _ (dom_kill.1 hx).1 e)⟩
          ·rcases evs_get k e he with ⟨p,hp,_⟩|⟨rfl,rfl⟩
           ·simp at hp
           ·refine⟨u,by rw[Array.getElem?_append_left (by simp)];rfl,hu1,up (fun z hz=>if_neg hz) (fun z b hz hb=>shape_heap (Below.heap_alloc w.drew _ b (hr.lb z b hz hb))) hu2⟩
          ·simp only[Array.size_append,List.size_toArray,List.length_singleton,size_zeroCells,hzs,hsz1,Nat.mul_one,Nat.zero_add]
           omega
         ·have hw0:Γ.Nw b:=hr.new r b hdr (.inl hnsr) hbr
          have hbI:=((hr.sto.1 r _ hmr).2 b hbr)
          obtain⟨arr,elb,hg,hpl,hcs⟩:=hrb.block hbr
          have hpl:hl.length≤arr.size:=by simpa[SC.evs] using hpl
          have hcs:∀(k:Nat) p,hl[k]? = some p→∃v,arr[k]? = some v∧v.oneCell'=true∧RE β (dom s.sto) I w (.mrow p.1 p.2 sz) v:=fun k p hp=>hcs k _ (by
           show(hl.map fun x=>EV.mrow x.1 x.2 sz)[k]? = _
           rw[List.getElem?_map,hp];rfl)
          have hnx:w.shape? b=some (elb,arr.size):=by unfold World.shape?;rw[hg]
          have hsz':nx=arr.size:=by
           rw[hnx] at hsh;injection hsh with hsh;injection hsh with h1 h2;exact h2.symm
          subst hsz'
          have hlsz:len*i.size=hl.length:=by rw[hi2,Nat.mul_one];exact g1.symm
          by_cases hroom:len+1≤cap
          ·have hrun:=run_append_room_el (P:=P) hu hi o.type b len cap arr hg ⟨b2,0,none⟩ 1 c2 [u] hul hus' hus1 hroom (by rw[hlsz];simp;omega)
           refine hwp _ _ (by rw[hvx,hvy];exact hrun) ?_
           have hasz:(arr.toList.take (len*i.size)++[u]++arr.toList.drop (len*i.size+[u].length)).toArray.size=arr.size:=by
            rw[hlsz];simp;omega
           have hget:∀k,(arr.toList.take (len*i.size)++[u]++arr.toList.drop (len*i.size+[u].length)).toArray[k]? = if len*i.size≤k∧k<len*i.size+1 then [u][k-len*i.size]? else arr[k]? := by
            intro k
            have:=splice_get arr.toList (len*i.size) [u] (by rw[hlsz];simp;omega) k
            unfold splice at this
            rw[←List.append_assoc] at this
            simp only[List.getElem?_toArray]
            rw[this]
            simp only[Array.getElem?_toList,List.length_singleton]
           have hnewc:∀(k:Nat) e,(SC.mats (hl++[(j,l)]) sz).evs[k]? = some e→∃v m n,e = .mrow m n sz∧(arr.toList.take (len*i.size)++[u]++arr.toList.drop (len*i.size+[u].length)).toArray[k]? = some v∧v.oneCell'=true∧RE β (dom s.sto) I w (.mrow m n sz) v:=by
            intro k e he
            rw[hget k]
            rcases evs_get k e he with ⟨p,hp,rfl,hlt⟩|⟨rfl,rfl⟩
            ·rw[if_neg (by omega)]
             obtain⟨v,q1,q2,q3⟩:=hcs k p hp
             exact⟨v,_,_,rfl,q1,q2,q3⟩
            ·rw[if_pos (by omega),show hl.length-len*i.size=0 by omega]
             exact⟨u,_,_,rfl,rfl,hu1,hu2⟩
           have hwr:=hr.write (sc' := .mats (hl++[(j,l)]) sz) hr9 hmr hbr hg hasz (fun k e he=>by
            obtain⟨v,m,n,rfl,q1,q2,q3⟩:=hnewc k e he
            exact⟨v,q1,q2,q3⟩)
           have hdk2:killSto r (Sto.set s.sto r (.mats (hl++[(j,l)]) sz))=killSto r s.sto:=killSto_set r _ s.sto
           have hkeq:kill r ⟨s.env,Sto.set s.sto r (.mats (hl++[(j,l)]) sz)⟩=kill r s:=by unfold kill;simp only[hdk2]
           have hshw:∀k',(w.setRow b (arr.toList.take (len*i.size)++[u]++arr.toList.drop (len*i.size+[u].length)).toArray).shape? k'=w.shape? k':=fun k'=>shape_setRow w b k' _ arr elb (0,0) hg hasz
           have hend:=app_endM hwr (r:=r) (d:=d) (len:=len+1) (sz:=1) (sc := .mats (hl++[(j,l)]) sz) (v := .slice (some ⟨b,0,none⟩) (len+1) cap) (ob:=some b) hdn hnsd (by rw[hdk2];exact hndk)
            (fun b' hb'=>by
             injection hb' with hb';subst hb'
             rw[hdk2]
             exact⟨by simpa[World.setRow] using hbI.1,hbI.2,hw0,hdk b hbr⟩)
            (.inr ⟨b,_,elb,by simp,setRow_heap w b arr _ elb (0,0) hg,fun k e he=>by
             obtain⟨v,m,n,rfl,q1,q2,q3⟩:=hnewc k e he
             rw[hdk2]
             exact⟨v,q1,q2,up (fun z hz=>if_neg hz) (fun z b' _ _=>hshw b') q3⟩⟩)
            (.inr ⟨b,cap,rfl,rfl,hroom,elb,arr.size,by rw[hshw b];exact hnx,hfit⟩)
           rw[hkeq] at hend
           exact hend
          ·have hlps:(arr.toList.take hl.length).length=len*i.size:=by simp;omega
           have holds:∀(k:Nat) v,(arr.toList.take hl.length)[k]? = some v→w.cell? ((⟨b,0,none⟩:Addr).add k)=some v:=by
            intro k v hv
            rw[add_addr,Nat.zero_add,cell_of_row w b k arr elb (0,0) hg]
            rw[List.getElem?_take] at hv
            split at hv
            ·simpa using hv
            ·cases hv
           have hrun:=run_append_grow (P:=P) w t1 o.type el i z hu hi hz ⟨b,0,none⟩ len cap (arr.toList.take hl.length) hlps holds ⟨b2,0,none⟩ 1 c2 [u] hul hus' (by omega) (by omega) (growslice_fits (by omega) hbytes)
           refine hwp _ _ (by rw[hvx,hvy];exact hrun) ?_
           generalize hW:((arr.toList.take hl.length).toArray++[u].toArray++Builtin.zeroCells z.cells (grownCap w (len+1) cap el-(len+1)):Array Value)=narr
           have hgrow:RelB Γ s a (w.drew.alloc (.cells narr el)) β I :=
            hr.grow (((Bel.refl _ _).drew).alloc (Nat.le_refl _) _) (fun b h=>h) (fun b h => .inl h)
           have hnew:(w.drew.alloc (.cells narr el)).heap[w.heap.size]? = some (.cells narr el (0,0)):=heap_alloc_new w.drew _
           have hge:=grownCap_ge w (len+1) cap el
           have hl1:(arr.toList.take hl.length).length=hl.length:=by simp;omega
           refine app_endM hgrow (sc := .mats (hl++[(j,l)]) sz) (ob:=some w.heap.size) hdn hnsd hndk (fun b' hb' => ?_) (.inr ⟨w.heap.size,_,el,by simp,hnew,fun k e he => ?_⟩) (.inr ⟨w.heap.size,grownCap w (len+1) cap el,rfl,rfl,hge,el,_,by unfold World.shape?;rw[hnew],?_⟩)
           ·injection hb' with hb';subst hb'
            exact⟨by simp,fun hI=>Nat.lt_irrefl _ (hr.ib _ hI),(.inl hr.keep.size),fun x hx e=>Nat.lt_irrefl _ (hr.lb x _ (dom_kill.1 hx).1 e)⟩
           ·have hnarr:narr[k]? = if k<hl.length then arr[k]? else if k<hl.length+1 then [u][k-hl.length]? else (Builtin.zeroCells z.cells (grownCap w (len+1) cap el-(len+1)))[k-(hl.length+1)]? := by
             rw[←hW,Array.getElem?_append,Array.getElem?_append]
             simp only[Array.size_append,List.size_toArray,hl1,List.getElem?_toArray,List.length_singleton]
             by_cases hj:k<hl.length
             ·rw[if_pos (by omega),if_pos hj,if_pos hj,List.getElem?_take,if_pos hj];simp
             ·by_cases hj2:k<hl.length+1
              ·rw[if_pos hj2,if_neg hj,if_neg hj,if_pos hj2]
              ·rw[if_neg hj2,if_neg hj,if_neg hj2]
            have hshw:∀z b,dom s.sto z→β z=some b→(w.drew.alloc (.cells narr el)).shape? b=w.shape? b:=fun z b hz hb=>shape_heap (Below.heap_alloc w.drew _ b (hr.lb z b hz hb))
            rcases evs_get k e he with ⟨p,hp,rfl,hlt⟩|⟨rfl,rfl⟩
            ·obtain⟨v,q1,q2,q3⟩:=hcs k p hp
             exact⟨v,by rw[hnarr,if_pos hlt];exact q1,q2,up (fun z hz=>if_neg hz) hshw q3⟩
            ·exact⟨u,by rw[hnarr,if_neg (by omega),if_pos (by omega),Nat.sub_self];rfl,hu1,up (fun z hz=>if_neg hz) hshw hu2⟩
           ·rw[←hW]
            simp only[Array.size_append,List.size_toArray,hlps,hul,size_zeroCells,hzs,hsz1,hi2,Nat.mul_one,Nat.zero_add]
            omega
       ·cases hst
      ·cases hst
     ·cases hst
    ·cases hst
  ·cases hst
 ·cases hst
def killHEV:EV→EV
 |.mrow .. => .dead
 |.mptr .. => .dead
 |e=>e
def killHSC:SC→SC
 |.lit cs => .lit (cs.map killHEV)
 |.mats hs _ => .lit (hs.map fun _ => .dead)
 |.heap _ => .heap []
 |.pure ps => .pure ps
def killHEnv:Env→Env
 |[]=>[]
 |(t,e)::r=>(t,killHEV e)::killHEnv r
def killHSto:Sto→Sto
 |[]=>[]
 |(x,c)::r=>bif Nat.beq x 999999 then killHSto r else (x,killHSC c)::killHSto r
def killH(s:St):St:=⟨killHEnv s.env,killHSto s.sto⟩
theorem killHEnv_get:∀(s:Env) (t:Nat),(killHEnv s).get t=(s.get t).map killHEV
 |[],t=>rfl
 |(t',e)::s,t=>by
  simp only[killHEnv,Env.get]
  cases Nat.beq t' t<;>simp[killHEnv_get s t]
theorem killHSto_get0:∀(s:Sto) (x:Nat),(killHSto s).get0 x=if x=999999 then none else (s.get0 x).map killHSC
 |[],x=>by simp[killHSto,Sto.get0]
 |(x',c)::s,x=>by
  simp only[killHSto]
  cases hb:Nat.beq x' 999999 with
  |true =>
   have:x'=999999:=Nat.eq_of_beq_eq_true hb
   subst this
   simp only[cond_true,killHSto_get0 s x,Sto.get0]
   by_cases hx:x=999999
   ·simp[hx]
   ·have h2:Nat.beq 999999 x=false:=beq_ne (Ne.symm hx)
    simp[hx,h2]
  |false =>
   simp only[cond_false,Sto.get0,killHSto_get0 s x]
   cases h2:Nat.beq x' x with
   |true =>
    have:x'=x:=Nat.eq_of_beq_eq_true h2
    subst this
    have hne:x'≠999999:=by intro e;subst e;simp at hb
    simp[hne]
   |false=>simp
theorem killHSto_get(s:Sto)(x:Nat):(killHSto s).get x=if x<999999 then (s.get x).map killHSC else none:=by
 rcases num3 x with h|rfl|⟨j,rfl⟩
 ·rw[Sto.get_lt h,Sto.get_lt h,if_pos h,killHSto_get0,if_neg (by omega)]
 ·rw[Sto.get_mid];rfl
 ·rw[Sto.get_hc,if_neg (by unfold hc;omega)]
  have:(killHSto s).hp=[]:=by
   unfold Sto.hp
   rw[killHSto_get0,if_pos rfl]
  rw[this]
  rfl
theorem dom_killH{s:Sto}{x:Nat} : dom (killHSto s) x↔dom s x∧x<999999:=by
 unfold dom
 rw[killHSto_get]
 by_cases h:x<999999
 ·simp[h]
 ·simp[h]
def smallEV:EV→Prop
 |.ptr r _=>r<999999
 |.row r _ _ _=>r<999999
 |.rowT r _ _ _ _=>r<999999
 |.clo _ r=>r<999999
 |_=>True
def smallB:EV→Bool
 |.ptr r _=>Nat.blt r 999999
 |.row r _ _ _=>Nat.blt r 999999
 |.rowT r _ _ _ _=>Nat.blt r 999999
 |.clo _ r=>Nat.blt r 999999
 |_=>true
def smallSC:SC→Bool
 |.lit cs=>cs.all smallB
 |_=>true
theorem killHEV_re{L L':Nat→Prop}{e:EV}{v:Value}(h:RE β L I w e v)(hsm:smallB e=true)(hL:∀x,L x→x<999999→L' x):RE β L' I w (killHEV e) v:=by
 cases e with
 |pv p=>exact h
 |cptr c=>exact h
 |dead=>exact h
 |ptr r off=>exact⟨hL _ h.1 (Nat.le_of_ble_eq_true hsm),h.2⟩
 |clo f r=>exact⟨hL _ h.1 (Nat.le_of_ble_eq_true hsm),h.2⟩
 |row r off len sz=>exact⟨hL _ h.1 (Nat.le_of_ble_eq_true hsm),h.2⟩
 |rowT r off len sz ps =>
  obtain⟨us,g1,g2,⟨u,g3,g4,g4'⟩,g5⟩:=h
  exact⟨us,g1,g2,⟨u,g3,hL _ g4 (Nat.le_of_ble_eq_true hsm),g4'⟩,g5⟩
 |mrow _ _ _=>exact True.intro
 |mptr _ _=>exact True.intro
theorem Env.get_mem:∀{env:Env} {t:Nat} {e:EV},env.get t=some e→(t,e)∈env
 |[],t,e,h=>by simp[Env.get] at h
 |(t',e')::r,t,e,h=>by
  simp only[Env.get] at h
  cases hb:Nat.beq t' t with
  |true =>
   have:t'=t:=Nat.eq_of_beq_eq_true hb
   subst this
   simp only[hb,cond_true] at h
   injection h with h;subst h;simp
  |false =>
   simp only[hb,cond_false] at h
   exact List.mem_cons_of_mem _ (Env.get_mem h)
theorem RelB.killH(h:RelB Γ s a w β I)(hsm:s.env.all (fun x=>smallB x.2)=true)(hss:s.sto.all (fun x=>smallSC x.2)=true):RelB Γ (killH s) a w β I:=by
 rw[List.all_eq_true] at hsm hss
 have hL:∀x,dom s.sto x→x<999999→dom (killHSto s.sto) x:=fun x hx hl=>dom_killH.2 ⟨hx,hl⟩
 refine⟨fun t e he => ?_,⟨fun x sc hx => ?_,fun x y b hx hy=>h.sto.2 x y b (dom_killH.1 hx).1 (dom_killH.1 hy).1⟩,fun x hx=>h.par x (dom_killH.1 hx).1,fun x b hx=>h.new x b (dom_killH.1 hx).1,h.ib,h.ii,h.keep,h.size,h.defers⟩
 ·have he:(killHEnv s.env).get t=some e:=he
  rw[killHEnv_get] at he
  cases hg:s.env.get t with
  |none=>simp[hg] at he
  |some e' =>
   simp[hg] at he
   subst he
   exact killHEV_re (h.env t e' hg) (hsm _ (Env.get_mem hg)) hL
 ·have hx:(killHSto s.sto).get x=some sc:=hx
  rw[killHSto_get] at hx
  by_cases hlt:x<999999
  ·rw[if_pos hlt] at hx
   cases hg:s.sto.get x with
   |none=>rw[hg] at hx;cases hx
   |some sc0 =>
    rw[hg] at hx
    simp only[Option.map_some,Option.some.injEq] at hx
    subst hx
    obtain⟨g1,g2⟩:=h.sto.1 x sc0 hg
    refine⟨?_,g2⟩
    have hss0:smallSC sc0=true:=by
     rw[Sto.get_lt hlt] at hg
     exact hss _ (Sto.get0_mem hg)
    rcases g1 with ⟨h1,h2⟩|⟨b,arr,el,h1,h2,h3⟩
    ·refine .inl ⟨h1,?_⟩
     cases sc0 with
     |lit cs=>have h2:cs=[]:=h2;subst h2;rfl
     |pure ps=>exact h2
     |heap xs=>rfl
     |mats hs sz =>
      have h2:(hs.map fun x=>EV.mrow x.1 x.2 sz)=[]:=h2
      have:hs=[]:=List.map_eq_nil_iff.1 h2
      subst this;rfl
    ·refine .inr ⟨b,arr,el,h1,h2,fun j e he => ?_⟩
     cases sc0 with
     |lit cs =>
      have he:(cs.map killHEV)[j]? = some e:=he
      rw[List.getElem?_map] at he
      cases hc:cs[j]? with
      |none=>simp[hc] at he
      |some c =>
       simp[hc] at he
       subst he
       obtain⟨u,q1,q2,q3⟩:=h3 j c hc
       unfold smallSC at hss0
       rw[List.all_eq_true] at hss0
       exact⟨u,q1,q2,killHEV_re q3 (hss0 c (List.mem_of_getElem? hc)) hL⟩
     |pure ps =>
      obtain⟨u,q1,q2,q3⟩:=h3 j e he
      have he:(ps.map EV.pv)[j]? = some e:=he
      rw[List.getElem?_map] at he
      cases hc:ps[j]? with
      |none=>simp[hc] at he
      |some p=>simp[hc] at he;subst he;exact⟨u,q1,q2,q3⟩
     |heap xs=>cases he
     |mats hs sz =>
      have he:(hs.map fun _=>EV.dead)[j]? = some e:=he
      rw[List.getElem?_map] at he
      cases hc:hs[j]? with
      |none=>simp[hc] at he
      |some p =>
       simp[hc] at he
       subst he
       obtain⟨u,q1,q2,_⟩:=h3 j _ (by show(hs.map fun x=>EV.mrow x.1 x.2 sz)[j]? = _;rw[List.getElem?_map,hc];rfl)
       exact⟨u,q1,q2,True.intro⟩
  ·rw[if_neg hlt] at hx;cases hx
def argsG(env:Env)(g:Nat):List Operand→Option (List EV)
 |[]=>some []
 |x::r=>match evalO env x,argsG env g r with
  |some (.pv p),some es=>some (.pv p::es)
  |some (.row r 0 len sz),some es=>bif Nat.beq r g then some (.row 200000 0 len sz::es) else none
  |_,_=>none
def stepCallG(P:Program)(n:Nat)(o:Oper)(h:Hint)(s:St):Option (St×List Prop) :=
 match o.op,h with
 |.call c,.callG g r=>match c.callee,argsG s.env g c.args.toList,s.sto.get g,s.sto.get0 999999 with
  |.value (.func f),some es,some (.mats hs sz),some (.heap xs)=>bif dstOk n o.dst&&Nat.blt g n&&(kill g s).env.all (fun x=>smallB x.2)&&(kill g s).sto.all (fun x=>smallSC x.2) then
    some (⟨setD (killH (kill g s)).env o.dst (.pv r),(killH (kill g s)).sto⟩,[ContractX P f es [(200000,.mats hs sz),(999999,.heap xs)] (.pv r) []]) else none
  |_,_,_,_=>none
 |_,_=>none
theorem sinG_get{hs:List (Nat×Nat)}{sz:Nat}{xs:List (Option (List PV))}(x:Nat):Sto.get [(200000,.mats hs sz),(999999,.heap xs)] x=if x=200000 then some (.mats hs sz) else if x<1000000 then none else heapAt xs (x-1000000):=by
 rcases num3 x with h|rfl|⟨j,rfl⟩
 ·rw[Sto.get_lt h]
  by_cases hx:x=200000
  ·subst hx;rfl
  ·rw[if_neg hx,if_pos (by omega)]
   simp only[Sto.get0,beq_ne (Ne.symm hx),cond_false,beq_ne (show 999999≠x by omega)]
 ·rw[Sto.get_mid];rfl
 ·rw[Sto.get_hc,if_neg (by unfold hc;omega),if_neg (by unfold hc;omega)]
  have:hc j-1000000=j:=by unfold hc;omega
  rw[this]
  rfl
theorem stepCallG_sound(hs:∀r,dom Γ.sin r→Γ.n≤r)(hr:Rel Γ s a w)(hst:stepCallG P Γ.n o h s=some (s',ob))(hob:Alls ob){K:Act→World→Prop}{Q:Exit→Act→World→Prop}
  (hk:∀a' w',Rel Γ s' a' w'→K a' w'):o.wp P a w K Q:=by
 obtain⟨β,I,hr⟩:=hr
 unfold stepCallG at hst
 split at hst
 ·rename_i c g r hop
  split at hst
  ·rename_i f es hl sz xs hcl hes hmg hheap
   cases hb:(dstOk Γ.n o.dst&&Nat.blt g Γ.n&&(kill g s).env.all (fun x=>smallB x.2)&&(kill g s).sto.all (fun x=>smallSC x.2)) with
   |false=>simp[hb] at hst
   |true =>
    simp only[hb,cond_true] at hst
    simp only[Bool.and_eq_true] at hb
    obtain⟨⟨⟨hd,hgn⟩,hsm1⟩,hsm2⟩:=hb
    have hgn:g<Γ.n:=Nat.le_of_ble_eq_true hgn
    have hg9:g<999999:=Nat.lt_of_lt_of_le hgn Γ.small
    injection hst with hst;injection hst with h1 h2
    subst h1;subst h2
    have hc:ContractX P f es [(200000,.mats hl sz),(999999,.heap xs)] (.pv r) []:=hob
    obtain⟨cl,args,ats⟩:=c
    have hcl:cl = .value (.func f):=hcl
    subst hcl
    have hhp:s.sto.hp=xs:=by unfold Sto.hp;rw[hheap]
    generalize hβc:(fun y=>if y=200000 then β g else β y)=βc
    have hβg:βc 200000=β g:=by rw[←hβc];simp
    have hβo:∀j,βc (Sym.hc j)=β (Sym.hc j):=fun j=>by rw[←hβc];simp[show Sym.hc j≠200000 by unfold Sym.hc;omega]
    have hdg:dom s.sto g:=by unfold dom;rw[hmg];rfl
    generalize hsin:([(200000,.mats hl sz),(999999,.heap xs)]:Sto)=sin at hc
    have hget:=fun x=>sinG_get (hs:=hl) (sz:=sz) (xs:=xs) x
    rw[hsin] at hget
    have hsite:∀y,dom sin y→∃x,dom s.sto x∧βc y=β x∧((y=200000∧x=g)∨∃j,y=Sym.hc j∧x=Sym.hc j):=fun y hy=>by
     unfold dom at hy
     rw[hget] at hy
     by_cases h1:y=200000
     ·subst h1;exact⟨g,hdg,hβg,.inl ⟨rfl,rfl⟩⟩
     ·rw[if_neg h1] at hy
      by_cases h2:y<1000000
      ·rw[if_pos h2] at hy;cases hy
      ·rw[if_neg h2] at hy
       have hj:y=Sym.hc (y-1000000):=by unfold Sym.hc;omega
       refine⟨y,?_,by rw[hj];exact hβo _,.inr ⟨_,hj,hj⟩⟩
       unfold dom
       rw[hj,Sto.get_hc,hhp];exact hy
    have hdh:∀j,dom s.sto (Sym.hc j)→dom sin (Sym.hc j):=fun j hj=>by
     unfold dom at hj ⊢
     rw[hget,if_neg (by unfold Sym.hc;omega),if_neg (by unfold Sym.hc;omega),show Sym.hc j-1000000=j by unfold Sym.hc;omega]
     rw[Sto.get_hc,hhp] at hj;exact hj
    have hdg':dom sin 200000:=by unfold dom;rw[hget];rfl
    have hre:∀j len v,RE β (dom s.sto) I w (.mrow j len sz) v→RE βc (dom sin) I w (.mrow j len sz) v:=fun j len v hv=>⟨hdh j hv.1,by rw[hβo];exact hv.2⟩
    have hso:StoOk βc I w sin:=by
     refine⟨fun y sc hy => ?_,fun y y' b hy hy' e1 e2 => ?_⟩
     ·have hdy:dom sin y:=by unfold dom;rw[hy];rfl
      obtain⟨x,hdx,hbx,hxx⟩:=hsite y hdy
      rw[hget] at hy
      rcases hxx with ⟨rfl,rfl⟩|⟨j,rfl,rfl⟩
      ·injection hy with hy;subst hy
       obtain⟨k1,k2⟩:=hr.sto.1 x _ hmg
       refine⟨?_,fun b hb=>k2 b (by rw[←hβg];exact hb)⟩
       rcases k1 with ⟨k1,k3⟩|⟨b,arr,el,k1,k3,k4⟩
       ·exact .inl ⟨hβg.trans k1,k3⟩
       ·refine .inr ⟨b,arr,el,hβg.trans k1,k3,fun i e he => ?_⟩
        obtain⟨u,q1,q2,q3⟩:=k4 i e he
        have he:(hl.map fun x=>EV.mrow x.1 x.2 sz)[i]? = some e:=he
        rw[List.getElem?_map] at he
        obtain⟨p,hp,rfl⟩:=Option.map_eq_some_iff.1 he
        exact⟨u,q1,q2,hre _ _ _ q3⟩
      ·rw[if_neg (by unfold Sym.hc;omega),if_neg (by unfold Sym.hc;omega),show Sym.hc j-1000000=j by unfold Sym.hc;omega] at hy
       have hy2:s.sto.get (Sym.hc j)=some sc:=by rw[Sto.get_hc,hhp];exact hy
       obtain⟨k1,k2⟩:=hr.sto.1 _ _ hy2
       have hcl:closedSC sc=true:=by
        unfold heapAt at hy
        split at hy
        ·injection hy with hy;subst hy;rfl
        ·cases hy
       exact⟨k1.closed hcl (hβo j) (fun _ h=>h),fun b hb=>k2 b (by rw[←hβo];exact hb)⟩
     ·obtain⟨x,hdx,hbx,hxx⟩:=hsite y hy
      obtain⟨x',hdx',hbx',hxx'⟩:=hsite y' hy'
      have:=hr.sto.2 x x' b hdx hdx' (by rw[←hbx];exact e1) (by rw[←hbx'];exact e2)
      rcases hxx with ⟨r1,r2⟩|⟨j,r1,r2⟩<;>rcases hxx' with ⟨r3,r4⟩|⟨j',r3,r4⟩
      ·rw[r1,r3]
      ·rw[r2,r4] at this;unfold Sym.hc at this;omega
      ·rw[r2,r4] at this;unfold Sym.hc at this;omega
      ·rw[r1,r3,←r2,←r4,this]
    have hargs:∀(l:List Operand) (es:List EV),argsG s.env g l=some es→l.length=es.length∧∀(i:Nat) e x,es[i]? = some e→l[i]? = some x→RE βc (dom sin) I w e (a.eval x):=by
     intro l
     induction l with
     |nil=>intro es h;injection h with h;subst h;exact⟨rfl,fun i e x he=>by simp at he⟩
     |cons x l ih =>
      intro es h
      unfold argsG at h
      split at h
      ·rename_i p es' hx hes'
       injection h with h;subst h
       obtain⟨i1,i2⟩:=ih es' hes'
       refine⟨by simp[i1],fun i e y he hy => ?_⟩
       cases i with
       |zero=>simp at he hy;subst he;subst hy;exact hr.evO x _ hx
       |succ i=>exact i2 i e y (by simpa using he) (by simpa using hy)
      ·rename_i q len sz' es' hx hes'
       cases hbq:Nat.beq q g with
       |false=>simp[hbq] at h
       |true =>
        simp only[hbq,cond_true] at h
        have hqg:q=g:=Nat.eq_of_beq_eq_true hbq
        subst hqg
        injection h with h;subst h
        obtain⟨i1,i2⟩:=ih es' hes'
        refine⟨by simp[i1],fun i e y he hy => ?_⟩
        cases i with
        |zero =>
         simp at he hy;subst he;subst hy
         have hv:=hr.evO x _ hx
         exact⟨hdg',by rw[hβg];exact hv.2⟩
        |succ i=>exact i2 i e y (by simpa using he) (by simpa using hy)
      ·cases h
    obtain⟨ha1,ha2⟩:=hargs args.toList es hes
    unfold Oper.wp
    rw[run_enter hc.1 hop]
    rw[Oper.upon_enter]
    refine(hc.2 I w βc (args.map a.eval) hr.ib hso (by simpa using ha1.symm) (fun i e v he hv => ?_)).mono fun e w' hp => ?_
    ·simp only[Array.getElem?_map] at hv
     cases hx:args[i]? with
     |none=>simp[hx] at hv
     |some x =>
      simp[hx] at hv
      subst hv
      exact ha2 i e x he (by simpa using hx)
    ·obtain⟨v,β',rfl,_,p2,_,p4,_⟩:=hp
     have hr1:=(hr.kill g).killH hsm1 hsm2
     have hd1:∀x,dom (killH (kill g s)).sto x→dom s.sto x∧x≠g∧x<999999:=fun x hx=>by
      obtain⟨q1,q2⟩:=dom_killH.1 hx
      obtain⟨q3,q4⟩:=dom_kill.1 q1
      exact⟨q3,q4,q2⟩
     have hapart:∀x b,dom (killH (kill g s)).sto x→β x=some b→¬∃y,dom sin y∧βc y=some b:=fun x b hx hb ⟨y,hy,hyb⟩=>by
      obtain⟨q1,q2,q3⟩:=hd1 x hx
      obtain⟨x',hdx',hbx',hxx'⟩:=hsite y hy
      have:=hr.sto.2 x x' b q1 hdx' hb (by rw[←hbx'];exact hyb)
      rcases hxx' with ⟨_,r2⟩|⟨j,_,r2⟩
      ·exact q2 (this.trans r2)
      ·rw[this,r2] at q3;unfold Sym.hc at q3;omega
     have hNw:∀x b,((x=g)∨∃j,x=Sym.hc j)→dom s.sto x→β x=some b→Γ.Nw b:=fun x b hx hdx hb=>by
      refine hr.new x b hdx ?_ hb
      rcases hx with rfl|⟨j,rfl⟩
      ·exact .inl (fun h=>absurd (hs x h) (Nat.not_le_of_lt hgn))
      ·exact .inr (by unfold gv Sym.hc;omega)
     have hm:=hr1.moved (M:=fun b=>∃y,dom sin y∧βc y=some b) (I':=fun b=>I b∨((fresh w w' b∨Gvn sin βc b)∧∀x,dom [] x→β' x≠some b)) p2
      (fun b hI ⟨y,hy,hyb⟩=>by
       obtain⟨x,hdx,hbx,_⟩:=hsite y hy
       obtain⟨sc,hsc⟩:=Option.isSome_iff_exists.1 hdx
       exact((hr.sto.1 x sc hsc).2 b (by rw[←hbx];exact hyb)).2 hI)
      hapart
      (fun b hlt ⟨y,hy,hyb⟩=>by
       obtain⟨x,hdx,hbx,hxx⟩:=hsite y hy
       exact(hNw x b (hxx.imp (fun h=>h.2) (fun ⟨j,_,h⟩=>⟨j,h⟩)) hdx (by rw[←hbx];exact hyb)).m hlt)
      (fun b hI => .inl hI)
      (fun b hI=>by
       rcases hI with hI|⟨hI|⟨y,hyg,hy,hyb⟩,_⟩
       ·exact .inl hI
       ·exact .inr (.inl hI)
       ·obtain⟨x,hdx,hbx,hxx⟩:=hsite y hy
        have hb':β x=some b:=by rw[←hbx];exact hyb
        exact .inr (.inr ⟨hNw x b (hxx.imp (fun h=>h.2) (fun ⟨j,_,h⟩=>⟨j,h⟩)) hdx hb',hr.lb x b hdx hb',fun x' hx' e=>hapart x' b hx' e ⟨y,hy,hyb⟩⟩))
     exact hk _ _ ⟨β,_,hm.put (dstOk_spec hd) p4⟩
  ·cases hst
 ·cases hst
def newR(d:Nat):EV→Option EV
 |.row 0 0 len 1=>some (.row d 0 len 1)
 |.rowT 0 0 len 1 ps=>some (.rowT d 0 len 1 ps)
 |_=>none
def stepCallN(P:Program)(n:Nat)(o:Oper)(h:Hint)(s:St):Option (St×List Prop) :=
 match o.op,o.dst,h with
 |.call c,some d,.callN r hs sz xs=>match c.callee,pvArgs s.env c.args.toList,newR d r,s.sto.get0 999999,s.sto.get d with
  |.value (.func f),some ps,some r',none,none=>bif Nat.blt d n then
    some (⟨setD s.env (some d) r',(d,.mats hs sz)::(999999,.heap xs)::s.sto⟩,[ContractX P f (ps.map EV.pv) [] r [(0,.mats hs sz),(999999,.heap xs)]]) else none
  |_,_,_,_,_=>none
 |_,_,_=>none
theorem soutN_get{r0:Nat}(h0:r0<999999){hs:List (Nat×Nat)}{sz:Nat}{xs:List (Option (List PV))}(x:Nat):Sto.get [(r0,.mats hs sz),(999999,.heap xs)] x=if x=r0 then some (.mats hs sz) else if x<1000000 then none else heapAt xs (x-1000000):=by
 rcases num3 x with h|rfl|⟨j,rfl⟩
 ·rw[Sto.get_lt h]
  by_cases hx:x=r0
  ·subst hx;simp[Sto.get0]
  ·rw[if_neg hx,if_pos (by omega)]
   simp only[Sto.get0,beq_ne (Ne.symm hx),cond_false,beq_ne (show 999999≠x by omega)]
 ·rw[Sto.get_mid,if_neg (by omega)];rfl
 ·rw[Sto.get_hc,if_neg (by unfold hc;omega),if_neg (by unfold hc;omega)]
  have:hc j-1000000=j:=by unfold hc;omega
  rw[this]
  unfold Sto.hp
  simp only[Sto.get0,beq_ne (show r0≠999999 by omega),cond_false,Nat.beq_refl,cond_true]
open Classical in
theorem stepCallN_sound(hs:∀r,dom Γ.sin r→Γ.n≤r)(hr:Rel Γ s a w)(hst:stepCallN P Γ.n o h s=some (s',ob))(hob:Alls ob){K:Act→World→Prop}{Q:Exit→Act→World→Prop}
  (hk:∀a' w',Rel Γ s' a' w'→K a' w'):o.wp P a w K Q:=by
 obtain⟨β,I,hr⟩:=hr
 unfold stepCallN at hst
 split at hst
 ·rename_i c d r hl sz xs hop hdst
  split at hst
  ·rename_i f ps r' hcl hps hrr hnh hnd
   cases hb:Nat.blt d Γ.n with
   |false=>simp[hb] at hst
   |true =>
    simp only[hb,cond_true] at hst
    have hdn:d<Γ.n:=Nat.le_of_ble_eq_true hb
    have hd9:d<999999:=Nat.lt_of_lt_of_le hdn Γ.small
    injection hst with hst;injection hst with h1 h2
    subst h1;subst h2
    have hc:ContractX P f (ps.map EV.pv) [] r [(0,.mats hl sz),(999999,.heap xs)]:=hob
    obtain⟨cl,args,ats⟩:=c
    have hcl:cl = .value (.func f):=hcl
    subst hcl
    generalize hsout:([(0,.mats hl sz),(999999,.heap xs)]:Sto)=sout at hc
    have hgo:=fun x=>soutN_get (r0:=0) (by omega) (hs:=hl) (sz:=sz) (xs:=xs) x
    rw[hsout] at hgo
    obtain⟨ha1,ha2⟩:=pvArgs_spec hr args.toList ps hps
    unfold Oper.wp
    rw[run_enter hc.1 hop]
    rw[Oper.upon_enter]
    refine(hc.2 I w β (args.map a.eval) hr.ib (stoOk_nil _ _ _) (by simp;simpa using ha1.symm) (fun i e v he hv => ?_)).mono fun e w' hp => ?_
    ·rw[List.getElem?_map] at he
     obtain⟨p,hp,rfl⟩:=Option.map_eq_some_iff.1 he
     simp only[Array.getElem?_map] at hv
     obtain⟨x,hx,rfl⟩:=Option.map_eq_some_iff.1 hv
     exact ha2 i p x hp (by simpa using hx)
    ·obtain⟨v,β',rfl,_,p2,p3,p4,p5⟩:=hp
     have hM:∀b,¬∃x,dom [] x∧β x=some b:=fun b ⟨x,hx,_⟩=>dom_nil hx
     have hG:∀b,¬Gvn [] β b:=fun b ⟨x,_,hx,_⟩=>dom_nil hx
     generalize hI':(fun b=>I b∨((fresh w w' b∨Gvn [] β b)∧∀x,dom sout x→β' x≠some b))=I' at p3 p4
     have hm:=hr.moved (M:=fun b=>∃x,dom [] x∧β x=some b) (I':=I') p2 (fun b _=>hM b) (fun _ b _ _=>hM b) (fun b _ hb=>absurd hb (hM b)) (fun b hI=>by rw[←hI'];exact .inl hI)
      (fun b hI=>by
       rw[←hI'] at hI
       rcases hI with hI|⟨hI|hI,_⟩
       ·exact .inl hI
       ·exact .inr (.inl hI)
       ·exact absurd hI (hG b))
     have hfr:∀x b,dom sout x→β' x=some b→fresh w w' b:=fun x b hx hb=>(p5 x b hx dom_nil hb).resolve_right (hG b)
     have hned:∀x:Nat,1000000≤x→x≠d:=fun x hx=>Nat.ne_of_gt (Nat.lt_of_lt_of_le hd9 (by omega))
     generalize hN:(fun x:Nat=>x=d∨(1000000≤x∧dom sout x))=N
     generalize hβ2:(fun x:Nat=>if x=d then β' 0 else if 1000000≤x∧dom sout x then β' x else β x)=β2
     generalize hsto:((d,.mats hl sz)::(999999,.heap xs)::s.sto:Sto)=sto2
     have hget2:∀x:Nat,Sto.get sto2 x=if x=d then some (.mats hl sz) else if 1000000≤x then heapAt xs (x-1000000) else s.sto.get x:=fun x=>by
      rw[←hsto,Sto.get_cons hd9]
      by_cases hx:x=d
      ·subst hx;simp
      ·rw[beq_ne (Ne.symm hx),cond_false,if_neg hx]
       rcases num3 x with h|rfl|⟨j,rfl⟩
       ·rw[if_neg (by omega),Sto.get_lt h,Sto.get_lt h]
        simp only[Sto.get0,beq_ne (show 999999≠x by omega),cond_false]
       ·rw[Sto.get_mid,if_neg (by omega),Sto.get_mid]
       ·rw[Sto.get_hc,if_pos (by unfold Sym.hc;omega),show Sym.hc j-1000000=j by unfold Sym.hc;omega]
        rfl
     have hhn:∀x,1000000≤x→s.sto.get x=none:=fun x hx=>by
      have:x=Sym.hc (x-1000000):=by unfold Sym.hc;omega
      rw[this,Sto.get_hc]
      unfold Sto.hp
      rw[hnh]
      rfl
     have hdh:∀x,1000000≤x→(dom sout x↔(heapAt xs (x-1000000)).isSome=true):=fun x hx=>by
      unfold dom
      rw[hgo,if_neg (by omega),if_neg (by omega)]
     have hβ0:β2 d=β' 0:=by rw[←hβ2];simp
     have hβh:∀x,1000000≤x→dom sout x→β2 x=β' x:=fun x h1 h2=>by
      rw[←hβ2];simp[hned x h1,h1,h2]
     have hd0:dom sout 0:=by unfold dom;rw[hgo];rfl
     have horig:∀x,N x→∃y,dom sout y∧β2 x=β' y∧(x=d∧y=0∨x=y∧1000000≤x):=fun x hx=>by
      rw[←hN] at hx
      rcases hx with rfl|⟨h1,h2⟩
      ·exact⟨0,hd0,hβ0,.inl ⟨rfl,rfl⟩⟩
      ·exact⟨x,h2,hβh x h1 h2,.inr ⟨rfl,h1⟩⟩
     have hde:∀x,1000000≤x→dom sout x→dom sto2 x:=fun x h1 h2=>by
      unfold dom
      rw[hget2,if_neg (hned x h1),if_pos h1]
      exact(hdh x h1).1 h2
     have hre:∀j len v,RE β' (dom sout) I' w' (.mrow j len sz) v→RE β2 (dom sto2) I' w' (.mrow j len sz) v:=fun j len v hv =>
      ⟨hde _ (by unfold Sym.hc;omega) hv.1,by rw[hβh _ (by unfold Sym.hc;omega) hv.1];exact hv.2⟩
     have hx:=hm.ext (sto':=sto2) (β':=β2) (N:=N)
      (fun x hx=>by
       rw[←hN] at hx
       rw[hget2,if_neg (fun e=>hx (.inl e))]
       by_cases h1:1000000≤x
       ·rw[if_pos h1,hhn x h1]
        have:¬dom sout x:=fun h=>hx (.inr ⟨h1,h⟩)
        rw[hdh x h1] at this
        cases hh:heapAt xs (x-1000000) with
        |none=>rfl
        |some _=>rw[hh] at this;exact absurd rfl this
       ·rw[if_neg h1])
      (fun x hx=>by
       rw[←hN] at hx
       rcases hx with rfl|⟨h1,_⟩
       ·exact⟨by unfold dom;rw[hnd];simp,.inl (fun h=>absurd (hs _ h) (Nat.not_le_of_lt hdn))⟩
       ·exact⟨by unfold dom;rw[hhn x h1];simp,.inr (by unfold gv;omega)⟩)
      (fun x hx=>by
       rw[←hN] at hx
       rw[←hβ2]
       simp only
       rw[if_neg (fun e=>hx (.inl e)),if_neg (fun h=>hx (.inr h))])
      (fun x b hx hb=>by
       obtain⟨y,hy,hyb,hxy⟩:=horig x hx
       rw[hyb] at hb
       obtain⟨sc,hsc⟩:=Option.isSome_iff_exists.1 hy
       have hfb:=hfr y b hy hb
       refine⟨((p3.1 y sc hsc).2 b hb).1,((p3.1 y sc hsc).2 b hb).2,.inl (Nat.le_trans hr.keep.size hfb.1),fun q hq e => ?_,fun x' hx' hb' => ?_⟩
       ·have:=hr.lb q b hq e;have:=hfb.1;omega
       ·obtain⟨y',hy',hyb',hxy'⟩:=horig x' hx'
        rw[hyb'] at hb'
        have:=p3.2 y y' b hy hy' hb hb'
        rcases hxy with ⟨r1,r2⟩|⟨r1,r2⟩<;>rcases hxy' with ⟨r3,r4⟩|⟨r3,r4⟩
        ·rw[r1,r3]
        ·omega
        ·omega
        ·rw[r1,r3,this])
      (fun x sc hx hg=>by
       obtain⟨y,hy,hyb,hxy⟩:=horig x hx
       rw[hget2] at hg
       rcases hxy with ⟨rfl,rfl⟩|⟨rfl,h1⟩
       ·rw[if_pos rfl] at hg
        injection hg with hg;subst hg
        have hg0:Sto.get sout 0=some (.mats hl sz):=by rw[hgo];rfl
        rcases(p3.1 0 _ hg0).1 with ⟨k1,k3⟩|⟨b,arr,el,k1,k3,k4⟩
        ·exact .inl ⟨hyb.trans k1,k3⟩
        ·refine .inr ⟨b,arr,el,hyb.trans k1,k3,fun i e he => ?_⟩
         obtain⟨u,q1,q2,q3⟩:=k4 i e he
         have he:(hl.map fun x=>EV.mrow x.1 x.2 sz)[i]? = some e:=he
         rw[List.getElem?_map] at he
         obtain⟨p,hp,rfl⟩:=Option.map_eq_some_iff.1 he
         exact⟨u,q1,q2,hre _ _ _ q3⟩
       ·rw[if_neg (hned x h1),if_pos h1] at hg
        have hg2:Sto.get sout x=some sc:=by rw[hgo,if_neg (by omega),if_neg (by omega)];exact hg
        have hcl:closedSC sc=true:=by
         unfold heapAt at hg
         split at hg
         ·injection hg with hg;subst hg;rfl
         ·cases hg
        exact(p3.1 x sc hg2).1.closed hcl hyb (fun _ h=>h))
     have hdd:dom sto2 d:=by unfold dom;rw[hget2];simp
     rw[hdst]
     refine hk _ _ ⟨β2,I',?_⟩
     rw[hsto]
     refine hx.put (dst:=some d) (fun d' hd'=>by injection hd' with hd';rw[←hd'];exact hdn) ?_
     unfold newR at hrr
     split at hrr
     ·injection hrr with hrr;subst hrr
      exact⟨hdd,by rw[hβ0];exact p4.2⟩
     ·injection hrr with hrr;subst hrr
      obtain⟨us,q1,q2,⟨u,q3,_,q4⟩,q5⟩:=p4
      exact⟨us,q1,q2,⟨u,q3,hdd,by rw[hβ0];exact q4⟩,q5⟩
     ·cases hrr
  ·cases hst
 ·cases hst
end
end Go.Proofs.YtboilcfohmmpbaaGreatDoor.Sym
