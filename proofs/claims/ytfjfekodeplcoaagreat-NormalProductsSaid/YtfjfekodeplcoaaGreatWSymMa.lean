/- Lemmas for the statements of this seat. -/
import Derived.Test.YtfjfekodeplcoaaGreatWSymM
namespace Go.Proofs.YtfjfekodeplcoaaGreat.Sym
open Go Go.RowKit
section
variable {P:Program} {T:ja} {Γ:Ctx} {s s':St} {a:Act} {w:World} {β:Nat→Option Nat} {I:Nat→Prop} {o:Oper} {h:Hint} {ob:List Prop}
theorem cq.ext(h:cq Γ s a w β I){sto':aG}{β':Nat→Option Nat}{N:Nat→Prop}
  (fS:∀x,¬N x→sto'.get x=s.sto.get x) (hN:∀x,N x→¬aS s.sto x∧(¬aS Γ.sin x∨gv x)) (hβ:∀x,¬N x→β' x=β x)
  (hb:∀x b,N x→β' x=some b→b<w.heap.size∧¬I b∧Γ.Nw b∧(∀r,aS s.sto r→β r≠some b)∧∀y,N y→β' y=some b→x=y)
  (gD:∀x sc,N x→sto'.get x=some sc→RB β' (aS sto') I w x sc.jc):cq Γ ⟨s.env,sto'⟩ a w β' I:=by
 have TF:∀x,aS s.sto x→¬N x:=fun x hx hn=>(hN x hn).1 hx
 have pk:∀x,aS s.sto x→β' x=β x:=fun x hx=>hβ x (TF x hx)
 have hL:∀x,aS s.sto x→aS sto' x:=fun x hx=>by unfold aS;rw[fS x (TF x hx)];exact hx
 have C9:∀x,aS sto' x→¬N x→aS s.sto x:=fun x hx hn=>by unfold aS at hx;rw[fS x hn] at hx;exact hx
 refine⟨fun t e he=>(h.env t e he).mono pk hL (fun _ h=>h) (fun _ _ _=>rfl) (fun _ _ _ _=>rfl),⟨fun x sc hx => ?_,fun x y b hx hy e1 e2 => ?_⟩,fun x hx hs hg => ?_,fun x b hx hs cI => ?_,h.ib,h.ii,h.aN,h.size,h.defers⟩
 ·have hx:sto'.get x=some sc:=hx
  by_cases hn:N x
  ·exact⟨gD x sc hn hx,fun b cI=>⟨(hb x b hn cI).1,(hb x b hn cI).2.1⟩⟩
  ·rw[fS x hn] at hx
   have hd:aS s.sto x:=by unfold aS;rw[hx];rfl
   obtain⟨g1,g2⟩:=h.sto.1 x sc hx
   exact⟨g1.mono (pk x hd) (fun _ _=>rfl) pk hL (fun _ h=>h) (fun _ _ _=>rfl) (fun _ _ _ _=>rfl),fun b cI=>g2 b (by rw[←pk x hd];exact cI)⟩
 ·by_cases h1:N x
  ·by_cases h2:N y
   ·exact(hb x b h1 e1).2.2.2.2 y h2 e2
   ·have hd:=C9 y hy h2
    rw[pk y hd] at e2
    exact absurd e2 ((hb x b h1 e1).2.2.2.1 y hd)
  ·have rf:=C9 x hx h1
   by_cases h2:N y
   ·rw[pk x rf] at e1
    exact absurd e1 ((hb y b h2 e2).2.2.2.1 x rf)
   ·have hd:=C9 y hy h2
    rw[pk x rf] at e1
    rw[pk y hd] at e2
    exact h.sto.2 x y b rf hd e1 e2
 ·by_cases h1:N x
  ·rcases(hN x h1).2 with h2|h2
   ·exact absurd hs h2
   ·exact absurd h2 hg
  ·have rf:=C9 x hx h1
   rw[pk x rf];exact h.par x rf hs hg
 ·by_cases h1:N x
  ·exact(hb x b h1 cI).2.2.1
  ·have rf:=C9 x hx h1
   rw[pk x rf] at cI;exact h.new x b rf hs cI
theorem cq.Da(h:cq Γ s a w β I){w':World}{M I':Nat→Prop}(hk:gS M w w')(Vf:∀b,I b→¬M b)(Vg:∀x b,aS s.sto x→β x=some b→¬M b)
  (Vh:∀b,b<Γ.w0.heap.size→M b→Γ.M b) (ML:∀b,I b→I' b) (ER:∀b,I' b→I b∨fresh w w' b∨(Γ.Nw b∧b<w.heap.size∧∀x,aS s.sto x→β x≠some b)):cq Γ s a w' β I':=by
 have hw:∀b o,I b→w'.cell? ⟨b,o,none⟩=w.cell? ⟨b,o,none⟩:=fun b o hI=>dM (hk.block b (h.ib b hI) (Vf b hI)) o
 have q9:∀r b,aS s.sto r→β r=some b→w'.shape? b=w.shape? b:=fun r b hd cI=>hk.shape b (h.lb r b hd cI)
 refine⟨fun t e he=>(h.env t e he).mono (fun _ _=>rfl) (fun _ h=>h) ML hw q9,⟨fun x sc hx => ?_,h.sto.2⟩,h.par,h.new,fun b hI => ?_,fun b hI => ?_,h.aN.trans hk Vh,h.size,h.defers⟩
 ·obtain⟨k1,k2⟩:=h.sto.1 x sc hx
  have ru:aS s.sto x:=by unfold aS;rw[hx];rfl
  refine⟨k1.mono rfl (fun b cI=>hk.block b (h.lb x b ru cI) (Vg x b ru cI)) (fun _ _=>rfl) (fun _ h=>h) ML hw q9,fun b cI=>⟨Nat.lt_of_lt_of_le (k2 b cI).1 hk.size,fun hI => ?_⟩⟩
  rcases ER b hI with h1|h1|h1
  ·exact(k2 b cI).2 h1
  ·have:=(k2 b cI).1;have:=h1.1;omega
  ·exact h1.2.2 x ru cI
 ·rcases ER b hI with h1|h1|h1
  ·exact Nat.lt_of_lt_of_le (h.ib b h1) hk.size
  ·exact h1.2
  ·exact Nat.lt_of_lt_of_le h1.2.1 hk.size
 ·rcases ER b hI with h1|h1|h1
  ·rcases h.ii b h1 with h3|h3
   ·exact .inl h3
   ·exact .inr (h3.imp (fun h3=>⟨h3.1,Nat.lt_of_lt_of_le h3.2 hk.size⟩) id)
  ·exact .inr (.inl ⟨Nat.le_trans h.aN.size h1.1,h1.2⟩)
  ·exact .inr (h1.1.imp (fun h2=>⟨h2,Nat.lt_of_lt_of_le h1.2.1 hk.size⟩) id)
def BK(n t j:Nat)(xs:List (Option (List PV)))(s:St):Option (St×List Prop) :=
 match s.env.get t with
 |some (.row d 0 len sz)=>match s.sto.get d,s.sto.cp 999999 with
  |some (.pure ps),some (.heap _)=>bif Nat.blt d n then
    some (⟨(t,.cv j len sz)::(kill d s).env,aG.pJ (kill d s).sto xs⟩,[s.sto.hp.length=j,s.sto.hp++[some ps]=xs]) else none
  |_,_=>none
 |_=>none
theorem AE(hs:∀r,aS Γ.sin r→Γ.n≤r){t j:Nat}{xs:List (Option (List PV))}(hr:Rel Γ s a w)(aD:BK Γ.n t j xs s=some (s',ob))(bK:cW ob):Rel Γ s' a w:=by
 obtain⟨β,I,hr⟩:=hr
 unfold BK at aD
 split at aD
 ·rename_i d len sz het
  split at aD
  ·rename_i ps ys jf ti
   cases hb:Nat.blt d Γ.n with
   |false=>simp[hb] at aD
   |true =>
    simp only[hb,cond_true] at aD
    have j0:d<Γ.n:=Nat.le_of_ble_eq_true hb
    have mh:d<999999:=Nat.lt_of_lt_of_le j0 Γ.small
    injection aD with aD;injection aD with h1 h2
    subst h1;subst h2
    obtain⟨g1,g2⟩:=bK.cons
    have g2:s.sto.hp++[some ps]=xs:=g2
    have hk:=hr.kill d
    have O9:(bz d s.sto).cp 999999=some (.heap ys):=by
     rw[gX,if_neg (by omega),ti]
     simp only[Option.map_some,jh,show Nat.blt d 1000000=true from Nat.ble_eq_true_of_le (by omega),cond_true]
    have Pa:(bz d s.sto).hp=s.sto.hp:=by rw[tE,if_pos (by omega)]
    have Ef:aS s.sto d:=by unfold aS;rw[jf];rfl
    have rb:¬aS (bz d s.sto) (hc j):=fun h=>by
     unfold aS at h
     rw[aG.cU,Pa] at h
     unfold cY at h
     rw[List.getElem?_eq_none (by omega)] at h
     cases h
    have fS:∀x,¬x=hc j→(aG.pJ (bz d s.sto) xs).get x=(bz d s.sto).get x:=fun x hx =>
     aG.yD O9 x (fun k wT=>by
      have Vi:k≠j:=fun e=>hx (by rw[wT,e])
      rw[Pa,←g2]
      unfold cY
      by_cases cQ:k<s.sto.hp.length
      ·rw[List.getElem?_append_left cQ]
      ·rw[List.getElem?_eq_none (by simp;omega),List.getElem?_eq_none (by omega)])
    have iv:(aG.pJ (bz d s.sto) xs).get (hc j)=some (.pure ps):=by
     rw[aG.cU,aG.xY O9,←g2]
     unfold cY
     rw[List.getElem?_append_right (by omega),g1]
     simp
    have Rn:d≠hc j:=by unfold hc;omega
    have hx:=hk.ext (sto':=aG.pJ (bz d s.sto) xs) (β':=fun x=>if x=hc j then β d else β x) (N:=fun x=>x=hc j) fS
     (fun x hx=>by subst hx;exact⟨rb,.inr (by unfold gv hc;omega)⟩) (fun x hx=>if_neg hx)
     (fun x b hx xG=>by
      subst hx
      have xG:β d=some b:=by simpa using xG
      exact⟨((hr.sto.1 d _ jf).2 b xG).1,((hr.sto.1 d _ jf).2 b xG).2,hr.new d b Ef (.inl (fun h=>absurd (hs d h) (Nat.not_le_of_lt j0))) xG,
       fun r q8 e=>(bW.1 q8).2 (hr.sto.2 r d b (bW.1 q8).1 Ef e xG),fun y hy _=>hy.symm⟩)
     (fun x sc hx hg=>by
      subst hx
      rw[iv] at hg
      injection hg with hg;subst hg
      exact RB.closed (sc := .pure ps) rfl (hr.sto.1 d _ jf).1 (by simp) (fun _ h=>h))
    refine⟨_,I,hx.H7 ?_⟩
    obtain⟨_,hv⟩:=hr.env t _ het
    exact⟨by unfold aS;rw[iv];rfl,by simpa using hv⟩
  ·cases aD
 ·cases aD
theorem Rel.qp(hr:Rel Γ s a w)(hn:s.sto.cp 999999=none):Rel Γ ⟨s.env,(999999,.heap [])::s.sto⟩ a w:=by
 refine Rel.HY (s:=s) ⟨fun _=>rfl,fun r => ?_⟩ hr
 show aG.get ((999999,.heap [])::s.sto) r=s.sto.get r
 rcases sQ r with h|rfl|⟨j,rfl⟩
 ·rw[aG.dX h,aG.dX h]
  simp only[aG.cp,di (show 999999≠r by omega),cond_false]
 ·rw[aG.cM,aG.cM]
 ·rw[aG.cU,aG.cU]
  unfold aG.hp
  rw[hn]
  rfl
theorem cq.yU(hr:cq Γ s a w β I)(hs:∀r,aS Γ.sin r→Γ.n≤r){t d sz:Nat}(he:s.env.get t=some (.pv .fa))(hd:s.sto.get d=none)(j0:d<Γ.n) :
  Rel Γ ⟨(t,.row d 0 0 1)::s.env,(d,.gk [] sz)::s.sto⟩ a w:=by
 have rb:¬aS s.sto d:=by unfold aS;rw[hd];simp
 have Az:¬aS Γ.sin d:=fun h=>absurd (hs d h) (Nat.not_le_of_lt j0)
 have hv:Rd I w .fa (a.tmps.getD t undef):=hr.env t _ he
 have mh:d<999999:=Nat.lt_of_lt_of_le j0 Γ.small
 have h2:=hr.site (d:=d) (sc := .gk [] sz) mh rb Az (β':=fun x=>if x=d then none else β x) (fun x hx=>if_neg hx) (fun b cI=>by simp at cI) (.inl ⟨by simp,rfl⟩)
 refine⟨_,_,h2.H7 ⟨(cZ mh).2 (.inl rfl),.inl ⟨by simp,rfl,?_⟩⟩⟩
 generalize a.tmps.getD t undef=v at hv
 cases hv;rfl
def tH(T:ja)(n:Nat)(o:Oper)(s:St):Option (St×List Prop) :=
 match o.op,o.dst with
 |.buildSlice t k parts,some d=>match T.get t,parts.toList with
  |some dt,[(0,x)]=>match dt.kind with
   |.slice e=>match T.get e,cA (kill d s).env x with
    |some de,some (.cv j len sz)=>bif Nat.beq k 1&&Nat.beq de.size 1&&Nat.blt d n then rG (kill d s) (some d) ⟨.row d 0 1 1,some (.gk [(j,len)] sz),[]⟩ else none
    |_,_=>none
   |_=>none
  |_,_=>none
 |_,_=>none
theorem vT(hT:lH P T)(hs:∀r,aS Γ.sin r→Γ.n≤r)(hr:Rel Γ s a w)(aD:tH T Γ.n o s=some (s',ob)){K:Act→World→Prop}{Q:Exit→Act→World→Prop}
  (hk:∀a' w',Rel Γ s' a' w'→K a' w'):o.wp P a w K Q:=by
 obtain⟨β,I,hr⟩:=hr
 unfold tH at aD
 split at aD
 ·rename_i t k parts d ml ow
  split at aD
  ·rename_i dt x GP qj
   split at aD
   ·rename_i e QE
    split at aD
    ·rename_i de j len sz lI hx
     cases hb:(Nat.beq k 1&&Nat.beq de.size 1&&Nat.blt d Γ.n) with
     |false=>simp[hb] at aD
     |true =>
      simp only[hb,cond_true] at aD
      simp only[Bool.and_eq_true] at hb
      have Ek:k=1:=Nat.eq_of_beq_eq_true hb.1.1
      have vP:de.size=1:=Nat.eq_of_beq_eq_true hb.1.2
      subst Ek
      obtain⟨un,hu,_,hf⟩:=(hT t dt GP).under
      rw[QE] at hf
      have hf:un = .slice e:=hf
      subst hf
      have sP:=hr.kill d
      obtain⟨z,hz,_,ta,_⟩:=(hT e de lI).mg w
      have hex:=sP.uD x _ hx
      obtain⟨u,GX,wN,Ro⟩:∃u,a.eval x=u∧u.oneCell'=true∧u.cells = #[u]:=by
       obtain⟨_,⟨_,_,hv⟩|⟨b,c,_,hv,_⟩⟩:=hex
       ·exact⟨_,hv,rfl,rfl⟩
       ·exact⟨_,hv,rfl,rfl⟩
      have hp:parts = #[(0,x)]:=GL qj
      subst hp
      have aw:(Instr.buildSlice t 1 (#[(0,x)].map fun (i,x)=>(i,a.eval x))).run P w = .ok (.slice (some ⟨w.heap.size,0,none⟩) 1 1) (w.alloc (.cells #[u] e)):=by
       have TC:z.cells.size=1:=by rw[ta,vP]
       have AZ:∀f:Nat→Value,Instr.fill (fun i=>some (i*1,1)) ((Array.range 1).map f) [(0,u)]=some #[u]:=fun f=>by
        have sP:(Array.range 1).map f = #[f 0]:=Array.ext' (by rw[Array.toList_map,Array.toList_range];rfl)
        rw[sP]
        unfold Instr.fill
        simp[Ro,Instr.fill,Array.zipIdx]
       simp only[Instr.buildSlice,Sem.run_bind,run_underlying hu,Result.andThen_ok,(hT e de lI).run_sizeOf w,vP]
       simp only[show ¬(1*1>2^24) by omega,if_false,show ¬(1*1=0) by omega,Sem.run_bind,hz,Sem.run_pure,Result.andThen_ok]
       have:(#[(0,x)].map fun (i,x)=>(i,a.eval x)).toList=[(0,u)]:=by simp[GX]
       rw[this,AZ]
       rfl
      have pE:qi β (aS (kill d s).sto) I w (some d) ⟨.row d 0 1 1,some (.gk [(j,len)] sz),[]⟩ (.slice (some ⟨w.heap.size,0,none⟩) 1 1) (w.alloc (.cells #[u] e)):=by
       refine qi.new (el:=e) (arr := #[u]) sP.lb sP.ib (fun i c hj => ?_) (.inr ⟨1,1,rfl,rfl,by simp⟩)
       have hj:([EV.cv j len sz]:List EV)[i]? = some c:=hj
       cases i with
       |succ i=>simp at hj
       |zero =>
        simp at hj;subst hj
        exact⟨u,rfl,wN,GX ▸ hex⟩
      rw[←ow] at aD pE
      have:=(uF hs sP (by rw[ow];exact hb.2) pE aD).1
      unfold Oper.wp
      rw[show (execOp a.eval o).run P w = .ok (.value (.slice (some ⟨w.heap.size,0,none⟩) 1 1)) (w.alloc (.cells #[u] e)) from by
       unfold execOp
       simp only[ml,Sem.run_bind,aw,Result.andThen_ok]
       rfl]
      exact hk _ _ this
    ·cases aD
   ·cases aD
  ·cases aD
 ·cases aD
theorem pT(hr:cq Γ s a w β I){r d len sz:Nat}{sc:SC}{v:Value}(j0:d<Γ.n)(ni:¬aS Γ.sin d)(nj:¬aS (bz r s.sto) d){ob:Option Nat}
  (hb:∀b,ob=some b→b<w.heap.size∧¬I b∧Γ.Nw b∧∀x,aS (bz r s.sto) x→β x≠some b)
  (xz:RB (fun x=>if x=d then ob else β x) (fun x=>aS (bz r s.sto) x∨x=d) I w d sc.jc)
  (hv:(ob=none∧len=0∧v = .slice none 0 0)∨∃b c,ob=some b∧v = .slice (some ⟨b,0,none⟩) len c∧len≤c∧∃el n,w.shape? b=some (el,n)∧0+c*sz≤n) :
  Rel Γ ⟨jg (kill r s).env (some d) (.row d 0 len sz),(d,sc)::(kill r s).sto⟩ (a.put (some d) v) w:=by
 have h1:=hr.kill r
 have mh:d<999999:=Nat.lt_of_lt_of_le j0 Γ.small
 have h2:=h1.site (d:=d) (sc:=sc) mh nj ni (β':=fun x=>if x=d then ob else β x) (fun x hx=>if_neg hx) (fun b cI=>hb b (by simpa using cI)) xz
 refine⟨_,_,h2.put (dst:=some d) (fun d' Ee=>by injection Ee with Ee;rw[←Ee];exact j0) ⟨(cZ mh).2 (.inl rfl),?_⟩⟩
 simpa using hv
def yV(T:ja)(n:Nat)(o:Oper)(h:Hint)(s:St):Option (St×List Prop) :=
 match o.op,o.dst,h with
 |.call c,some d,.OS lJ EB=>match c.callee,c.args.toList,c.argTypes.toList with
  |.builtin .append,[x,y],[t1,t2]=>bif Nat.beq t1 t2&&Nat.blt d n then
    match T.get t1 with
    |some dt=>match dt.kind with
     |.slice el=>match T.get el,cA s.env x,cA s.env y with
      |some de,some (.row r 0 len 1),some (.row q 0 1 1)=>match s.sto.get r,s.sto.get q,(kill r s).sto.get d with
       |some (.gk hs sz),some (.gk [(j,l)] OB),none=>bif Nat.beq de.size 1&&Nat.beq sz OB&&Nat.blt r n then
         some (⟨jg (kill r s).env (some d) (.row d 0 lJ 1),(d,.gk EB sz)::(kill r s).sto⟩,
          [hs.length=len,len+1=lJ,hs++[(j,l)]=EB,lJ*de.bytes≤140737488355328,lJ<9223372036854775808])
        else none
       |_,_,_=>none
      |_,_,_=>none
     |_=>none
    |none=>none
   else none
  |_,_,_=>none
 |_,_,_=>none
theorem yW(hT:lH P T)(hs:∀r,aS Γ.sin r→Γ.n≤r)(hr:Rel Γ s a w)(aD:yV T Γ.n o h s=some (s',ob))(bK:cW ob){K:Act→World→Prop}{Q:Exit→Act→World→Prop}
  (hk:∀a' w',Rel Γ s' a' w'→K a' w'):o.wp P a w K Q:=by
 obtain⟨β,I,hr⟩:=hr
 unfold yV at aD
 split at aD
 ·rename_i c d lJ EB ml ow
  split at aD
  ·rename_i x y t1 t2 jb fZ yA
   cases ux:(Nat.beq t1 t2&&Nat.blt d Γ.n) with
   |false=>simp[ux] at aD
   |true =>
    simp only[ux,cond_true] at aD
    simp only[Bool.and_eq_true] at ux
    have cw:t1=t2:=Nat.eq_of_beq_eq_true ux.1
    have j0:d<Γ.n:=Nat.le_of_ble_eq_true ux.2
    have mh:d<999999:=Nat.lt_of_lt_of_le j0 Γ.small
    subst cw
    split at aD
    ·rename_i dt GP
     split at aD
     ·rename_i el wT
      obtain⟨un,hu,_,hf⟩:=(hT t1 dt GP).under
      rw[wT] at hf
      have hf:un = .slice el:=hf
      subst hf
      split at aD
      ·rename_i de r len q lI hx hy
       split at aD
       ·rename_i hl sz j l OB MM Rp oB
        cases nh:(Nat.beq de.size 1&&Nat.beq sz OB&&Nat.blt r Γ.n) with
        |false=>simp[nh] at aD
        |true =>
         simp only[nh,cond_true] at aD
         simp only[Bool.and_eq_true] at nh
         have vP:de.size=1:=Nat.eq_of_beq_eq_true nh.1.1
         have MN:sz=OB:=Nat.eq_of_beq_eq_true nh.1.2
         have GQ:r<Γ.n:=Nat.le_of_ble_eq_true nh.2
         have C0:r<999999:=Nat.lt_of_lt_of_le GQ Γ.small
         subst MN
         injection aD with aD;injection aD with h1 h2
         subst h1;subst h2
         obtain⟨g1,bK⟩:=bK.cons
         obtain⟨g3,bK⟩:=bK.cons
         obtain⟨g2,bK⟩:=bK.cons
         obtain⟨g5,g6⟩:=bK.cons
         subst g3
         have g6:len+1<9223372036854775808:=g6
         subst g2
         obtain⟨i,hi,uq,Ka,z,hz,_,ta,_⟩:=(hT el de lI).info
         rw[vP] at uq
         obtain⟨sq,kK⟩:=hr.uD x _ hx
         have xz:=(hr.sto.1 r _ MM).1
         have EK:¬aS Γ.sin r:=fun h=>by have:=hs r h;omega
         have ni:¬aS Γ.sin d:=fun h=>absurd (hs d h) (Nat.not_le_of_lt j0)
         have nj:¬aS (kill r s).sto d:=by unfold aS;rw[oB];simp
         obtain⟨KD,⟨_,bg,_⟩|⟨b2,c2,HV,rE,_⟩⟩:=hr.uD y _ hy
         ·cases bg
         obtain⟨OC,Rq,Kf,_,EU⟩:=(hr.sto.1 q _ Rp).1.block HV
         obtain⟨u,HP,GX,wN⟩:=EU 0 (.cv j l sz) rfl
         have xC:∀(k:Nat) v,[u][k]? = some v→w.cell? ((⟨b2,0,none⟩:Addr).add k)=some v:=fun k v hv=>by
          cases k with
          |succ k=>simp at hv
          |zero =>
           simp at hv;subst hv
           rw[eC,cell_of_row w b2 _ OC Rq (0,0) Kf];exact HP
         have EM:∀v∈[u],v.oneCell'=true:=fun v hv=>by simp at hv;subst hv;exact GX
         have rr:[u].length=1*i.size:=by rw[uq];rfl
         have A2:∀v' w',(Builtin.append_ #[t1,t1] o.type #[a.eval x,a.eval y]).run P w = .ok v' w'→Rel Γ ⟨jg (kill r s).env (some d) (.row d 0 (len+1) 1),(d,.gk (hl++[(j,l)]) sz)::(kill r s).sto⟩ (a.put (some d) v') w'→o.wp P a w K Q:=by
          intro v' w' aw gY
          have gV:=sS fZ
          have nO:=sS yA
          obtain⟨cl,args,CY⟩:=c
          simp only at jb gV nO
          subst jb;subst gV;subst nO
          unfold Oper.wp execOp
          simp only[ml,resolve,invoke,builtin,Sem.run_bind,Sem.run_pure,Result.andThen_ok,List.map_toArray,List.map_cons,List.map_nil,aw]
          show K (a.put o.dst v') w'
          rw[ow]
          exact hk _ _ gY
         have lU:(len+1)*i.bytes≤140737488355328:=by rw[Ka];exact g5
         have MD:len+1≤maxLen:=by unfold maxLen;omega
         have Kb:∀b,β r=some b→∀x,aS (bz r s.sto) x→β x≠some b:=fun b hb x hx e =>
          (bW.1 hx).2 (hr.sto.2 x r b (bW.1 hx).1 sq e hb)
         have up:∀{β1:Nat→Option Nat} {w1:World} {k m:Nat} {v:Value},(∀z,z≠d→β1 z=β z)→(∀z b,aS s.sto z→β z=some b→w1.shape? b=w.shape? b)→RE β (aS s.sto) I w (.cv k m sz) v→RE β1 (fun x=>aS (bz r s.sto) x∨x=d) I w1 (.cv k m sz) v:=by
          intro β1 w1 k m v MO q9 hv
          have iO:hc k≠r:=by unfold hc;omega
          have EW:hc k≠d:=Nat.ne_of_gt (Nat.lt_of_lt_of_le mh (show 999999≤hc k by unfold hc;omega))
          obtain⟨e1,e2⟩:=hv
          refine⟨.inl (bW.2 ⟨e1,iO⟩),?_⟩
          rw[MO _ EW]
          rcases e2 with e2|⟨b,c,f1,f2,f3,f4,f5,f6,f7⟩
          ·exact .inl e2
          ·exact .inr ⟨b,c,f1,f2,f3,f4,f5,by rw[q9 _ b e1 f1];exact f6,f7⟩
         have qq:∀(k:Nat) e,(SC.gk (hl++[(j,l)]) sz).jc[k]? = some e→(∃p,hl[k]? = some p∧e = .cv p.1 p.2 sz∧k<hl.length)∨(k=hl.length∧e = .cv j l sz):=by
          intro k e he
          have he:((hl++[(j,l)]).map fun x=>EV.cv x.1 x.2 sz)[k]? = some e:=he
          rw[List.getElem?_map] at he
          by_cases Ek:k<hl.length
          ·left
           rw[List.getElem?_append_left Ek,List.getElem?_eq_getElem Ek] at he
           simp only[Option.map_some,Option.some.injEq] at he
           exact⟨_,List.getElem?_eq_getElem Ek,he.symm,Ek⟩
          ·right
           rw[List.getElem?_append_right (by omega)] at he
           have Rg:k-hl.length=0:=by
            have:=(List.getElem?_eq_some_iff.1 (Option.map_eq_some_iff.1 he).choose_spec.1).1
            simp at this;omega
           rw[Rg] at he
           simp only[List.getElem?_cons_zero,Option.map_some,Option.some.injEq] at he
           exact⟨by omega,he.symm⟩
         rcases kK with ⟨Hs,tC,td⟩|⟨b,cap,j5,td,GK,Ra,nx,q9,rF⟩
         ·subst tC
          have tC:hl=[]:=List.eq_nil_of_length_eq_zero g1
          subst tC
          have aw:=run_append_nil (P:=P) w t1 o.type el i z hu hi hz ⟨b2,0,none⟩ 1 c2 [u] rr xC (by omega) (by omega) (by simp only[Nat.zero_add] at lU;omega)
          refine A2 _ _ (by rw[td,rE];exact aw) ?_
          have mm:cq Γ s a (w.drew.alloc (.cells ([u].toArray++Builtin.zeroCells z.cells (grownCap w 1 0 el-1)) el)) β I :=
           hr.grow (((ur.refl _ _).drew).alloc (Nat.le_refl _) _) (fun b h=>h) (fun b h => .inl h)
          have iv:(w.drew.alloc (.cells ([u].toArray++Builtin.zeroCells z.cells (grownCap w 1 0 el-1)) el)).heap[w.heap.size]? = some (.cells ([u].toArray++Builtin.zeroCells z.cells (grownCap w 1 0 el-1)) el (0,0)):=heap_alloc_new w.drew _
          have rz:=grownCap_ge w 1 0 el
          refine pT mm (sc := .gk ([]++[(j,l)]) sz) (ob:=some w.heap.size) j0 ni nj (fun b hb => ?_) (.inr ⟨w.heap.size,_,el,by simp,iv,fun k e he => ?_⟩) (.inr ⟨w.heap.size,grownCap w 1 0 el,rfl,by simp,by simpa using rz,el,_,by unfold World.shape?;rw[iv],?_⟩)
          ·injection hb with hb;subst hb
           exact⟨by simp,fun hI=>Nat.lt_irrefl _ (hr.ib _ hI),(.inl hr.aN.size),fun x hx e=>Nat.lt_irrefl _ (hr.lb x _ (bW.1 hx).1 e)⟩
          ·rcases qq k e he with ⟨p,hp,_⟩|⟨rfl,rfl⟩
           ·simp at hp
           ·refine⟨u,by rw[Array.getElem?_append_left (by simp)];rfl,GX,up (fun z hz=>if_neg hz) (fun z b hz hb=>gU (Below.heap_alloc w.drew _ b (hr.lb z b hz hb))) wN⟩
          ·simp only[Array.size_append,List.size_toArray,List.length_singleton,size_zeroCells,ta,vP,Nat.mul_one,Nat.zero_add]
           omega
         ·have GR:Γ.Nw b:=hr.new r b sq (.inl EK) j5
          have A1:=((hr.sto.1 r _ MM).2 b j5)
          obtain⟨arr,rh,hg,Et,ot⟩:=xz.block j5
          have Et:hl.length≤arr.size:=by simpa[SC.jc] using Et
          have ot:∀(k:Nat) p,hl[k]? = some p→∃v,arr[k]? = some v∧v.oneCell'=true∧RE β (aS s.sto) I w (.cv p.1 p.2 sz) v:=fun k p hp=>ot k _ (by
           show(hl.map fun x=>EV.cv x.1 x.2 sz)[k]? = _
           rw[List.getElem?_map,hp];rfl)
          have EL:w.shape? b=some (rh,arr.size):=by unfold World.shape?;rw[hg]
          have vJ:nx=arr.size:=by
           rw[EL] at q9;injection q9 with q9;injection q9 with h1 h2;exact h2.symm
          subst vJ
          have xD:len*i.size=hl.length:=by rw[uq,Nat.mul_one];exact g1.symm
          by_cases lO:len+1≤cap
          ·have aw:=kg (P:=P) hu hi o.type b len cap arr hg ⟨b2,0,none⟩ 1 c2 [u] rr xC EM lO (by rw[xD];simp;omega)
           refine A2 _ _ (by rw[td,rE];exact aw) ?_
           have yG:(arr.toList.take (len*i.size)++[u]++arr.toList.drop (len*i.size+[u].length)).toArray.size=arr.size:=by
            rw[xD];simp;omega
           have fS:∀k,(arr.toList.take (len*i.size)++[u]++arr.toList.drop (len*i.size+[u].length)).toArray[k]? = if len*i.size≤k∧k<len*i.size+1 then [u][k-len*i.size]? else arr[k]? := by
            intro k
            have:=dI arr.toList (len*i.size) [u] (by rw[xD];simp;omega) k
            unfold cF at this
            rw[←List.append_assoc] at this
            simp only[List.getElem?_toArray]
            rw[this]
            simp only[Array.getElem?_toList,List.length_singleton]
           have rJ:∀(k:Nat) e,(SC.gk (hl++[(j,l)]) sz).jc[k]? = some e→∃v m n,e = .cv m n sz∧(arr.toList.take (len*i.size)++[u]++arr.toList.drop (len*i.size+[u].length)).toArray[k]? = some v∧v.oneCell'=true∧RE β (aS s.sto) I w (.cv m n sz) v:=by
            intro k e he
            rw[fS k]
            rcases qq k e he with ⟨p,hp,rfl,cQ⟩|⟨rfl,rfl⟩
            ·rw[if_neg (by omega)]
             obtain⟨v,q1,q2,q3⟩:=ot k p hp
             exact⟨v,_,_,rfl,q1,q2,q3⟩
            ·rw[if_pos (by omega),show hl.length-len*i.size=0 by omega]
             exact⟨u,_,_,rfl,rfl,GX,wN⟩
           have MF:=hr.write (sc' := .gk (hl++[(j,l)]) sz) C0 MM j5 hg yG (fun k e he=>by
            obtain⟨v,m,n,rfl,q1,q2,q3⟩:=rJ k e he
            exact⟨v,q1,q2,q3⟩)
           have rK:bz r (aG.set s.sto r (.gk (hl++[(j,l)]) sz))=bz r s.sto:=oC r _ s.sto
           have EN:kill r ⟨s.env,aG.set s.sto r (.gk (hl++[(j,l)]) sz)⟩=kill r s:=by unfold kill;simp only[rK]
           have yX:∀k',(w.setRow b (arr.toList.take (len*i.size)++[u]++arr.toList.drop (len*i.size+[u].length)).toArray).shape? k'=w.shape? k':=fun k'=>kT w b k' _ arr rh (0,0) hg yG
           have yH:=pT MF (r:=r) (d:=d) (len:=len+1) (sz:=1) (sc := .gk (hl++[(j,l)]) sz) (v := .slice (some ⟨b,0,none⟩) (len+1) cap) (ob:=some b) j0 ni (by rw[rK];exact nj)
            (fun b' cI=>by
             injection cI with cI;subst cI
             rw[rK]
             exact⟨by simpa[World.setRow] using A1.1,A1.2,GR,Kb b j5⟩)
            (.inr ⟨b,_,rh,by simp,setRow_heap w b arr _ rh (0,0) hg,fun k e he=>by
             obtain⟨v,m,n,rfl,q1,q2,q3⟩:=rJ k e he
             rw[rK]
             exact⟨v,q1,q2,up (fun z hz=>if_neg hz) (fun z b' _ _=>yX b') q3⟩⟩)
            (.inr ⟨b,cap,rfl,rfl,lO,rh,arr.size,by rw[yX b];exact EL,rF⟩)
           rw[EN] at yH
           exact yH
          ·have yI:(arr.toList.take hl.length).length=len*i.size:=by simp;omega
           have holds:∀(k:Nat) v,(arr.toList.take hl.length)[k]? = some v→w.cell? ((⟨b,0,none⟩:Addr).add k)=some v:=by
            intro k v hv
            rw[eC,Nat.zero_add,cell_of_row w b k arr rh (0,0) hg]
            rw[List.getElem?_take] at hv
            split at hv
            ·simpa using hv
            ·cases hv
           have aw:=run_append_grow (P:=P) w t1 o.type el i z hu hi hz ⟨b,0,none⟩ len cap (arr.toList.take hl.length) yI holds ⟨b2,0,none⟩ 1 c2 [u] rr xC (by omega) (by omega) (growslice_fits (by omega) lU)
           refine A2 _ _ (by rw[td,rE];exact aw) ?_
           generalize hW:((arr.toList.take hl.length).toArray++[u].toArray++Builtin.zeroCells z.cells (grownCap w (len+1) cap el-(len+1)):Array Value)=narr
           have mm:cq Γ s a (w.drew.alloc (.cells narr el)) β I :=
            hr.grow (((ur.refl _ _).drew).alloc (Nat.le_refl _) _) (fun b h=>h) (fun b h => .inl h)
           have iv:(w.drew.alloc (.cells narr el)).heap[w.heap.size]? = some (.cells narr el (0,0)):=heap_alloc_new w.drew _
           have rz:=grownCap_ge w (len+1) cap el
           have Ed:(arr.toList.take hl.length).length=hl.length:=by simp;omega
           refine pT mm (sc := .gk (hl++[(j,l)]) sz) (ob:=some w.heap.size) j0 ni nj (fun b' cI => ?_) (.inr ⟨w.heap.size,_,el,by simp,iv,fun k e he => ?_⟩) (.inr ⟨w.heap.size,grownCap w (len+1) cap el,rfl,rfl,rz,el,_,by unfold World.shape?;rw[iv],?_⟩)
           ·injection cI with cI;subst cI
            exact⟨by simp,fun hI=>Nat.lt_irrefl _ (hr.ib _ hI),(.inl hr.aN.size),fun x hx e=>Nat.lt_irrefl _ (hr.lb x _ (bW.1 hx).1 e)⟩
           ·have uJ:narr[k]? = if k<hl.length then arr[k]? else if k<hl.length+1 then [u][k-hl.length]? else (Builtin.zeroCells z.cells (grownCap w (len+1) cap el-(len+1)))[k-(hl.length+1)]? := by
             rw[←hW,Array.getElem?_append,Array.getElem?_append]
             simp only[Array.size_append,List.size_toArray,Ed,List.getElem?_toArray,List.length_singleton]
             by_cases hj:k<hl.length
             ·rw[if_pos (by omega),if_pos hj,if_pos hj,List.getElem?_take,if_pos hj];simp
             ·by_cases xE:k<hl.length+1
              ·rw[if_pos xE,if_neg hj,if_neg hj,if_pos xE]
              ·rw[if_neg xE,if_neg hj,if_neg xE]
            have yX:∀z b,aS s.sto z→β z=some b→(w.drew.alloc (.cells narr el)).shape? b=w.shape? b:=fun z b hz hb=>gU (Below.heap_alloc w.drew _ b (hr.lb z b hz hb))
            rcases qq k e he with ⟨p,hp,rfl,cQ⟩|⟨rfl,rfl⟩
            ·obtain⟨v,q1,q2,q3⟩:=ot k p hp
             exact⟨v,by rw[uJ,if_pos cQ];exact q1,q2,up (fun z hz=>if_neg hz) yX q3⟩
            ·exact⟨u,by rw[uJ,if_neg (by omega),if_pos (by omega),Nat.sub_self];rfl,GX,up (fun z hz=>if_neg hz) yX wN⟩
           ·rw[←hW]
            simp only[Array.size_append,List.size_toArray,yI,rr,size_zeroCells,ta,vP,uq,Nat.mul_one,Nat.zero_add]
            omega
       ·cases aD
      ·cases aD
     ·cases aD
    ·cases aD
  ·cases aD
 ·cases aD
def oE:EV→EV
 |.cv .. => .dead
 |.kf .. => .dead
 |e=>e
def BL:SC→SC
 |.lit cs => .lit (cs.map oE)
 |.gk hs _ => .lit (hs.map fun _ => .dead)
 |.fY hs sz => .lit ((bodE hs sz).map oE)
 |.heap _ => .heap []
 |.pure ps => .pure ps
def rQ:Env→Env
 |[]=>[]
 |(t,e)::r=>(t,oE e)::rQ r
def jk:aG→aG
 |[]=>[]
 |(x,c)::r=>bif Nat.beq x 999999 then jk r else (x,BL c)::jk r
def oF(s:St):St:=⟨rQ s.env,jk s.sto⟩
theorem uO:∀(s:Env) (t:Nat),(rQ s).get t=(s.get t).map oE
 |[],t=>rfl
 |(t',e)::s,t=>by
  simp only[rQ,Env.get]
  cases Nat.beq t' t<;>simp[uO s t]
theorem mc:∀(s:aG) (x:Nat),(jk s).cp x=if x=999999 then none else (s.cp x).map BL
 |[],x=>by simp[jk,aG.cp]
 |(x',c)::s,x=>by
  simp only[jk]
  cases hb:Nat.beq x' 999999 with
  |true =>
   have:x'=999999:=Nat.eq_of_beq_eq_true hb
   subst this
   simp only[cond_true,mc s x,aG.cp]
   by_cases hx:x=999999
   ·simp[hx]
   ·have h2:Nat.beq 999999 x=false:=di (Ne.symm hx)
    simp[hx,h2]
  |false =>
   simp only[cond_false,aG.cp,mc s x]
   cases h2:Nat.beq x' x with
   |true =>
    have:x'=x:=Nat.eq_of_beq_eq_true h2
    subst this
    have iO:x'≠999999:=by intro e;subst e;simp at hb
    simp[iO]
   |false=>simp
theorem uP(s:aG)(x:Nat):(jk s).get x=if x<999999 then (s.get x).map BL else none:=by
 rcases sQ x with h|rfl|⟨j,rfl⟩
 ·rw[aG.dX h,aG.dX h,if_pos h,mc,if_neg (by omega)]
 ·rw[aG.cM];rfl
 ·rw[aG.cU,if_neg (by unfold hc;omega)]
  have:(jk s).hp=[]:=by
   unfold aG.hp
   rw[mc,if_pos rfl]
  rw[this]
  rfl
theorem kC{s:aG}{x:Nat} : aS (jk s) x↔aS s x∧x<999999:=by
 unfold aS
 rw[uP]
 by_cases h:x<999999
 ·simp[h]
 ·simp[h]
def QF:EV→Prop
 |.ptr r _=>r<999999
 |.row r _ _ _=>r<999999
 |.kN r _ _ _ _=>r<999999
 |.mM _ r=>r<999999
 |.dV _=>False
 |_=>True
def pn:EV→Bool
 |.ptr r _=>Nat.blt r 999999
 |.row r _ _ _=>Nat.blt r 999999
 |.kN r _ _ _ _=>Nat.blt r 999999
 |.mM _ r=>Nat.blt r 999999
 |.dV _=>false
 |_=>true
def nk:SC→Bool
 |.lit cs=>cs.all pn
 |_=>true
theorem tI{L L':Nat→Prop}{e:EV}{v:Value}(h:RE β L I w e v)(yQ:pn e=true)(hL:∀x,L x→x<999999→L' x):RE β L' I w (oE e) v:=by
 cases e with
 |pv p=>exact h
 |mL c=>exact h
 |dead=>exact h
 |ptr r off=>exact⟨hL _ h.1 (Nat.le_of_ble_eq_true yQ),h.2⟩
 |mM f r=>exact⟨hL _ h.1 (Nat.le_of_ble_eq_true yQ),h.2⟩
 |row r off len sz=>exact⟨hL _ h.1 (Nat.le_of_ble_eq_true yQ),h.2⟩
 |kN r off len sz ps =>
  obtain⟨us,g1,g2,⟨u,g3,g4,Oz⟩,g5⟩:=h
  exact⟨us,g1,g2,⟨u,g3,hL _ g4 (Nat.le_of_ble_eq_true yQ),Oz⟩,g5⟩
 |cv _ _ _=>exact True.intro
 |kf _ _=>exact True.intro
 |dV _=>cases yQ
theorem Env.get_mem:∀{env:Env} {t:Nat} {e:EV},env.get t=some e→(t,e)∈env
 |[],t,e,h=>by simp[Env.get] at h
 |(t',e')::r,t,e,h=>by
  simp only[Env.get] at h
  cases hb:Nat.beq t' t with
  |true =>
   have:t'=t:=Nat.eq_of_beq_eq_true hb
   subst this
   simp only[hb,cond_true] at h
   injection h with h;subst h;simp
  |false =>
   simp only[hb,cond_false] at h
   exact List.mem_cons_of_mem _ (Env.get_mem h)
theorem cq.oF(h:cq Γ s a w β I)(yQ:s.env.all (fun x=>pn x.2)=true)(LD:s.sto.all (fun x=>nk x.2)=true):cq Γ (oF s) a w β I:=by
 rw[List.all_eq_true] at yQ LD
 have hL:∀x,aS s.sto x→x<999999→aS (jk s.sto) x:=fun x hx hl=>kC.2 ⟨hx,hl⟩
 refine⟨fun t e he => ?_,⟨fun x sc hx => ?_,fun x y b hx hy=>h.sto.2 x y b (kC.1 hx).1 (kC.1 hy).1⟩,fun x hx=>h.par x (kC.1 hx).1,fun x b hx=>h.new x b (kC.1 hx).1,h.ib,h.ii,h.aN,h.size,h.defers⟩
 ·have he:(rQ s.env).get t=some e:=he
  rw[uO] at he
  cases hg:s.env.get t with
  |none=>simp[hg] at he
  |some e' =>
   simp[hg] at he
   subst he
   exact tI (h.env t e' hg) (yQ _ (Env.get_mem hg)) hL
 ·have hx:(jk s.sto).get x=some sc:=hx
  rw[uP] at hx
  by_cases cQ:x<999999
  ·rw[if_pos cQ] at hx
   cases hg:s.sto.get x with
   |none=>rw[hg] at hx;cases hx
   |some BJ =>
    rw[hg] at hx
    simp only[Option.map_some,Option.some.injEq] at hx
    subst hx
    obtain⟨g1,g2⟩:=h.sto.1 x BJ hg
    refine⟨?_,g2⟩
    have MP:nk BJ=true:=by
     rw[aG.dX cQ] at hg
     exact LD _ (aG.rO hg)
    rcases g1 with ⟨h1,h2⟩|⟨b,arr,el,h1,h2,h3⟩
    ·refine .inl ⟨h1,?_⟩
     cases BJ with
     |lit cs=>have h2:cs=[]:=h2;subst h2;rfl
     |pure ps=>exact h2
     |heap xs=>rfl
     |gk hs sz =>
      have h2:(hs.map fun x=>EV.cv x.1 x.2 sz)=[]:=h2
      have:hs=[]:=List.map_eq_nil_iff.1 h2
      subst this;rfl
     |fY hs sz =>
      have h2:bodE hs sz=[]:=h2
      show(bodE hs sz).map oE=[]
      rw[h2];rfl
    ·refine .inr ⟨b,arr,el,h1,h2,fun j e he => ?_⟩
     cases BJ with
     |lit cs =>
      have he:(cs.map oE)[j]? = some e:=he
      rw[List.getElem?_map] at he
      cases hc:cs[j]? with
      |none=>simp[hc] at he
      |some c =>
       simp[hc] at he
       subst he
       obtain⟨u,q1,q2,q3⟩:=h3 j c hc
       unfold nk at MP
       rw[List.all_eq_true] at MP
       exact⟨u,q1,q2,tI q3 (MP c (List.mem_of_getElem? hc)) hL⟩
     |pure ps =>
      obtain⟨u,q1,q2,q3⟩:=h3 j e he
      have he:(ps.map EV.pv)[j]? = some e:=he
      rw[List.getElem?_map] at he
      cases hc:ps[j]? with
      |none=>simp[hc] at he
      |some p=>simp[hc] at he;subst he;exact⟨u,q1,q2,q3⟩
     |heap xs=>cases he
     |gk hs sz =>
      have he:(hs.map fun _=>EV.dead)[j]? = some e:=he
      rw[List.getElem?_map] at he
      cases hc:hs[j]? with
      |none=>simp[hc] at he
      |some p =>
       simp[hc] at he
       subst he
       obtain⟨u,q1,q2,_⟩:=h3 j _ (by show(hs.map fun x=>EV.cv x.1 x.2 sz)[j]? = _;rw[List.getElem?_map,hc];rfl)
       exact⟨u,q1,q2,True.intro⟩
     |fY hs sz =>
      have he:((bodE hs sz).map oE)[j]? = some e:=he
      rw[List.getElem?_map] at he
      obtain⟨c,hc,rfl⟩:=Option.map_eq_some_iff.1 he
      obtain⟨u,q1,q2,q3⟩:=h3 j c hc
      have yQ:pn c=true:=by
       have:=List.mem_of_getElem? hc
       unfold bodE at this
       obtain⟨x,_,hx⟩:=List.mem_flatMap.1 this
       rcases List.mem_cons.1 hx with rfl|hx
       ·rfl
       ·rcases List.mem_cons.1 hx with rfl|hx
        ·rfl
        ·cases hx
      exact⟨u,q1,q2,tI q3 yQ hL⟩
  ·rw[if_neg cQ] at hx;cases hx
def FU(env:Env)(g:Nat):List Operand→Option (List EV)
 |[]=>some []
 |x::r=>match cA env x,FU env g r with
  |some (.pv p),some es=>some (.pv p::es)
  |some (.row r 0 len sz),some es=>bif Nat.beq r g then some (.row 200000 0 len sz::es) else none
  |_,_=>none
def vV(P:Program)(n:Nat)(o:Oper)(h:Hint)(s:St):Option (St×List Prop) :=
 match o.op,h with
 |.call c,.LB g r=>match c.callee,FU s.env g c.args.toList,s.sto.get g,s.sto.cp 999999 with
  |.value (.func f),some es,some (.gk hs sz),some (.heap xs)=>bif gp n o.dst&&Nat.blt g n&&(kill g s).env.all (fun x=>pn x.2)&&(kill g s).sto.all (fun x=>nk x.2) then
    some (⟨jg (oF (kill g s)).env o.dst (.pv r),(oF (kill g s)).sto⟩,[av P f es [(200000,.gk hs sz),(999999,.heap xs)] (.pv r) []]) else none
  |_,_,_,_=>none
 |_,_=>none
theorem Ib{hs:List (Nat×Nat)}{sz:Nat}{xs:List (Option (List PV))}(x:Nat):aG.get [(200000,.gk hs sz),(999999,.heap xs)] x=if x=200000 then some (.gk hs sz) else if x<1000000 then none else cY xs (x-1000000):=by
 rcases sQ x with h|rfl|⟨j,rfl⟩
 ·rw[aG.dX h]
  by_cases hx:x=200000
  ·subst hx;rfl
  ·rw[if_neg hx,if_pos (by omega)]
   simp only[aG.cp,di (Ne.symm hx),cond_false,di (show 999999≠x by omega)]
 ·rw[aG.cM];rfl
 ·rw[aG.cU,if_neg (by unfold hc;omega),if_neg (by unfold hc;omega)]
  have:hc j-1000000=j:=by unfold hc;omega
  rw[this]
  rfl
theorem xH(hs:∀r,aS Γ.sin r→Γ.n≤r)(hr:Rel Γ s a w)(aD:vV P Γ.n o h s=some (s',ob))(bK:cW ob){K:Act→World→Prop}{Q:Exit→Act→World→Prop}
  (hk:∀a' w',Rel Γ s' a' w'→K a' w'):o.wp P a w K Q:=by
 obtain⟨β,I,hr⟩:=hr
 unfold vV at aD
 split at aD
 ·rename_i c g r ml
  split at aD
  ·rename_i f es hl sz xs jb FN TG ti
   cases hb:(gp Γ.n o.dst&&Nat.blt g Γ.n&&(kill g s).env.all (fun x=>pn x.2)&&(kill g s).sto.all (fun x=>nk x.2)) with
   |false=>simp[hb] at aD
   |true =>
    simp only[hb,cond_true] at aD
    simp only[Bool.and_eq_true] at hb
    obtain⟨⟨⟨hd,Ej⟩,Rr⟩,Rt⟩:=hb
    have Ej:g<Γ.n:=Nat.le_of_ble_eq_true Ej
    have Xa:g<999999:=Nat.lt_of_lt_of_le Ej Γ.small
    injection aD with aD;injection aD with h1 h2
    subst h1;subst h2
    have hc:av P f es [(200000,.gk hl sz),(999999,.heap xs)] (.pv r) []:=bK
    obtain⟨cl,args,CY⟩:=c
    have jb:cl = .value (.func f):=jb
    subst jb
    have OD:s.sto.hp=xs:=by unfold aG.hp;rw[ti]
    generalize hβc:(fun y=>if y=200000 then β g else β y)=βc
    have Ic:βc 200000=β g:=by rw[←hβc];simp
    have KE:∀j,βc (Sym.hc j)=β (Sym.hc j):=fun j=>by rw[←hβc];simp[show Sym.hc j≠200000 by unfold Sym.hc;omega]
    have Vj:aS s.sto g:=by unfold aS;rw[TG];rfl
    generalize hsin:([(200000,.gk hl sz),(999999,.heap xs)]:aG)=sin at hc
    have fS:=fun x=>Ib (hs:=hl) (sz:=sz) (xs:=xs) x
    rw[hsin] at fS
    have ji:∀y,aS sin y→∃x,aS s.sto x∧βc y=β x∧((y=200000∧x=g)∨∃j,y=Sym.hc j∧x=Sym.hc j):=fun y hy=>by
     unfold aS at hy
     rw[fS] at hy
     by_cases h1:y=200000
     ·subst h1;exact⟨g,Vj,Ic,.inl ⟨rfl,rfl⟩⟩
     ·rw[if_neg h1] at hy
      by_cases h2:y<1000000
      ·rw[if_pos h2] at hy;cases hy
      ·rw[if_neg h2] at hy
       have hj:y=Sym.hc (y-1000000):=by unfold Sym.hc;omega
       refine⟨y,?_,by rw[hj];exact KE _,.inr ⟨_,hj,hj⟩⟩
       unfold aS
       rw[hj,aG.cU,OD];exact hy
    have QG:∀j,aS s.sto (Sym.hc j)→aS sin (Sym.hc j):=fun j hj=>by
     unfold aS at hj ⊢
     rw[fS,if_neg (by unfold Sym.hc;omega),if_neg (by unfold Sym.hc;omega),show Sym.hc j-1000000=j by unfold Sym.hc;omega]
     rw[aG.cU,OD] at hj;exact hj
    have Ru:aS sin 200000:=by unfold aS;rw[fS];rfl
    have wR:∀j len v,RE β (aS s.sto) I w (.cv j len sz) v→RE βc (aS sin) I w (.cv j len sz) v:=fun j len v hv=>⟨QG j hv.1,by rw[KE];exact hv.2⟩
    have AD:tg βc I w sin:=by
     refine⟨fun y sc hy => ?_,fun y y' b hy yT e1 e2 => ?_⟩
     ·have Hv:aS sin y:=by unfold aS;rw[hy];rfl
      obtain⟨x,ru,xG,El⟩:=ji y Hv
      rw[fS] at hy
      rcases El with ⟨rfl,rfl⟩|⟨j,rfl,rfl⟩
      ·injection hy with hy;subst hy
       obtain⟨k1,k2⟩:=hr.sto.1 x _ TG
       refine⟨?_,fun b hb=>k2 b (by rw[←Ic];exact hb)⟩
       rcases k1 with ⟨k1,k3⟩|⟨b,arr,el,k1,k3,k4⟩
       ·exact .inl ⟨Ic.trans k1,k3⟩
       ·refine .inr ⟨b,arr,el,Ic.trans k1,k3,fun i e he => ?_⟩
        obtain⟨u,q1,q2,q3⟩:=k4 i e he
        have he:(hl.map fun x=>EV.cv x.1 x.2 sz)[i]? = some e:=he
        rw[List.getElem?_map] at he
        obtain⟨p,hp,rfl⟩:=Option.map_eq_some_iff.1 he
        exact⟨u,q1,q2,wR _ _ _ q3⟩
      ·rw[if_neg (by unfold Sym.hc;omega),if_neg (by unfold Sym.hc;omega),show Sym.hc j-1000000=j by unfold Sym.hc;omega] at hy
       have LG:s.sto.get (Sym.hc j)=some sc:=by rw[aG.cU,OD];exact hy
       obtain⟨k1,k2⟩:=hr.sto.1 _ _ LG
       have jb:eT sc=true:=by
        unfold cY at hy
        split at hy
        ·injection hy with hy;subst hy;rfl
        ·cases hy
       exact⟨k1.closed jb (KE j) (fun _ h=>h),fun b hb=>k2 b (by rw[←KE];exact hb)⟩
     ·obtain⟨x,ru,xG,El⟩:=ji y hy
      obtain⟨x',MQ,MR,MS⟩:=ji y' yT
      have:=hr.sto.2 x x' b ru MQ (by rw[←xG];exact e1) (by rw[←MR];exact e2)
      rcases El with ⟨r1,r2⟩|⟨j,r1,r2⟩<;>rcases MS with ⟨r3,r4⟩|⟨j',r3,r4⟩
      ·rw[r1,r3]
      ·rw[r2,r4] at this;unfold Sym.hc at this;omega
      ·rw[r2,r4] at this;unfold Sym.hc at this;omega
      ·rw[r1,r3,←r2,←r4,this]
    have fZ:∀(l:List Operand) (es:List EV),FU s.env g l=some es→l.length=es.length∧∀(i:Nat) e x,es[i]? = some e→l[i]? = some x→RE βc (aS sin) I w e (a.eval x):=by
     intro l
     induction l with
     |nil=>intro es h;injection h with h;subst h;exact⟨rfl,fun i e x he=>by simp at he⟩
     |cons x l ih =>
      intro es h
      unfold FU at h
      split at h
      ·rename_i p Kd hx MT
       injection h with h;subst h
       obtain⟨i1,i2⟩:=ih Kd MT
       refine⟨by simp[i1],fun i e y he hy => ?_⟩
       cases i with
       |zero=>simp at he hy;subst he;subst hy;exact hr.uD x _ hx
       |succ i=>exact i2 i e y (by simpa using he) (by simpa using hy)
      ·rename_i q len OB Kd hx MT
       cases HV:Nat.beq q g with
       |false=>simp[HV] at h
       |true =>
        simp only[HV,cond_true] at h
        have Vk:q=g:=Nat.eq_of_beq_eq_true HV
        subst Vk
        injection h with h;subst h
        obtain⟨i1,i2⟩:=ih Kd MT
        refine⟨by simp[i1],fun i e y he hy => ?_⟩
        cases i with
        |zero =>
         simp at he hy;subst he;subst hy
         have hv:=hr.uD x _ hx
         exact⟨Ru,by rw[Ic];exact hv.2⟩
        |succ i=>exact i2 i e y (by simpa using he) (by simpa using hy)
      ·cases h
    obtain⟨MU,MV⟩:=fZ args.toList es FN
    unfold Oper.wp
    rw[pM hc.1 ml]
    rw[Oper.upon_enter]
    refine(hc.2 I w βc (args.map a.eval) hr.ib AD (by simpa using MU.symm) (fun i e v he hv => ?_) (hr.lay.sub fun y b hy hb=>let ⟨x,h1,h2,_⟩:=ji y hy;⟨x,h1,h2.symm.trans hb⟩)).mono fun e w' hp => ?_
    ·simp only[Array.getElem?_map] at hv
     cases hx:args[i]? with
     |none=>simp[hx] at hv
     |some x =>
      simp[hx] at hv
      subst hv
      exact MV i e x he (by simpa using hx)
    ·obtain⟨v,β',rfl,_,p2,_,p4,_⟩:=hp
     have sP:=(hr.kill g).oF Rr Rt
     have rf:∀x,aS (oF (kill g s)).sto x→aS s.sto x∧x≠g∧x<999999:=fun x hx=>by
      obtain⟨q1,q2⟩:=kC.1 hx
      obtain⟨q3,q4⟩:=bW.1 q1
      exact⟨q3,q4,q2⟩
     have Ie:∀x b,aS (oF (kill g s)).sto x→β x=some b→¬∃y,aS sin y∧βc y=some b:=fun x b hx hb ⟨y,hy,qT⟩=>by
      obtain⟨q1,q2,q3⟩:=rf x hx
      obtain⟨x',MQ,MR,MS⟩:=ji y hy
      have:=hr.sto.2 x x' b q1 MQ hb (by rw[←MR];exact qT)
      rcases MS with ⟨_,r2⟩|⟨j,_,r2⟩
      ·exact q2 (this.trans r2)
      ·rw[this,r2] at q3;unfold Sym.hc at q3;omega
     have TH:∀x b,((x=g)∨∃j,x=Sym.hc j)→aS s.sto x→β x=some b→Γ.Nw b:=fun x b hx ru hb=>by
      refine hr.new x b ru ?_ hb
      rcases hx with rfl|⟨j,rfl⟩
      ·exact .inl (fun h=>absurd (hs x h) (Nat.not_le_of_lt Ej))
      ·exact .inr (by unfold gv Sym.hc;omega)
     have hm:=sP.Da (M:=fun b=>∃y,aS sin y∧βc y=some b) (I':=fun b=>I b∨((fresh w w' b∨xy sin βc b)∧∀x,aS [] x→β' x≠some b)) p2
      (fun b hI ⟨y,hy,qT⟩=>by
       obtain⟨x,ru,xG,_⟩:=ji y hy
       obtain⟨sc,gD⟩:=Option.isSome_iff_exists.1 ru
       exact((hr.sto.1 x sc gD).2 b (by rw[←xG];exact qT)).2 hI)
      Ie
      (fun b cQ ⟨y,hy,qT⟩=>by
       obtain⟨x,ru,xG,El⟩:=ji y hy
       exact(TH x b (El.imp (fun h=>h.2) (fun ⟨j,_,h⟩=>⟨j,h⟩)) ru (by rw[←xG];exact qT)).m cQ)
      (fun b hI => .inl hI)
      (fun b hI=>by
       rcases hI with hI|⟨hI|⟨y,TI,hy,qT⟩,_⟩
       ·exact .inl hI
       ·exact .inr (.inl hI)
       ·obtain⟨x,ru,xG,El⟩:=ji y hy
        have cI:β x=some b:=by rw[←xG];exact qT
        exact .inr (.inr ⟨TH x b (El.imp (fun h=>h.2) (fun ⟨j,_,h⟩=>⟨j,h⟩)) ru cI,hr.lb x b ru cI,fun x' qV e=>Ie x' b qV e ⟨y,hy,qT⟩⟩))
     exact hk _ _ ⟨β,_,hm.put (c9 hd) p4⟩
  ·cases aD
 ·cases aD
def Pb(d:Nat):EV→Option EV
 |.row 0 0 len 1=>some (.row d 0 len 1)
 |.kN 0 0 len 1 ps=>some (.kN d 0 len 1 ps)
 |_=>none
def vX(P:Program)(n:Nat)(o:Oper)(h:Hint)(s:St):Option (St×List Prop) :=
 match o.op,o.dst,h with
 |.call c,some d,.LC r hs sz xs=>match c.callee,kh s.env c.args.toList,Pb d r,s.sto.cp 999999,s.sto.get d with
  |.value (.func f),some ps,some r',none,none=>bif Nat.blt d n then
    some (⟨jg s.env (some d) r',(d,.gk hs sz)::(999999,.heap xs)::s.sto⟩,[av P f (ps.map EV.pv) [] r [(0,.gk hs sz),(999999,.heap xs)]]) else none
  |_,_,_,_,_=>none
 |_,_,_=>none
theorem GY{r0:Nat}(h0:r0<999999){hs:List (Nat×Nat)}{sz:Nat}{xs:List (Option (List PV))}(x:Nat):aG.get [(r0,.gk hs sz),(999999,.heap xs)] x=if x=r0 then some (.gk hs sz) else if x<1000000 then none else cY xs (x-1000000):=by
 rcases sQ x with h|rfl|⟨j,rfl⟩
 ·rw[aG.dX h]
  by_cases hx:x=r0
  ·subst hx;simp[aG.cp]
  ·rw[if_neg hx,if_pos (by omega)]
   simp only[aG.cp,di (Ne.symm hx),cond_false,di (show 999999≠x by omega)]
 ·rw[aG.cM,if_neg (by omega)];rfl
 ·rw[aG.cU,if_neg (by unfold hc;omega),if_neg (by unfold hc;omega)]
  have:hc j-1000000=j:=by unfold hc;omega
  rw[this]
  unfold aG.hp
  simp only[aG.cp,di (show r0≠999999 by omega),cond_false,Nat.beq_refl,cond_true]
open Classical in
theorem xI(hs:∀r,aS Γ.sin r→Γ.n≤r)(hr:Rel Γ s a w)(aD:vX P Γ.n o h s=some (s',ob))(bK:cW ob){K:Act→World→Prop}{Q:Exit→Act→World→Prop}
  (hk:∀a' w',Rel Γ s' a' w'→K a' w'):o.wp P a w K Q:=by
 obtain⟨β,I,hr⟩:=hr
 unfold vX at aD
 split at aD
 ·rename_i c d r hl sz xs ml ow
  split at aD
  ·rename_i f ps r' jb jf GZ Vl rb
   cases hb:Nat.blt d Γ.n with
   |false=>simp[hb] at aD
   |true =>
    simp only[hb,cond_true] at aD
    have j0:d<Γ.n:=Nat.le_of_ble_eq_true hb
    have mh:d<999999:=Nat.lt_of_lt_of_le j0 Γ.small
    injection aD with aD;injection aD with h1 h2
    subst h1;subst h2
    have hc:av P f (ps.map EV.pv) [] r [(0,.gk hl sz),(999999,.heap xs)]:=bK
    obtain⟨cl,args,CY⟩:=c
    have jb:cl = .value (.func f):=jb
    subst jb
    generalize hsout:([(0,.gk hl sz),(999999,.heap xs)]:aG)=sout at hc
    have Pc:=fun x=>GY (r0:=0) (by omega) (hs:=hl) (sz:=sz) (xs:=xs) x
    rw[hsout] at Pc
    obtain⟨MU,MV⟩:=mn hr args.toList ps jf
    unfold Oper.wp
    rw[pM hc.1 ml]
    rw[Oper.upon_enter]
    refine(hc.2 I w β (args.map a.eval) hr.ib (jF _ _ _) (by simp;simpa using MU.symm) (fun i e v he hv => ?_) hr.lay.nil).mono fun e w' hp => ?_
    ·rw[List.getElem?_map] at he
     obtain⟨p,hp,rfl⟩:=Option.map_eq_some_iff.1 he
     simp only[Array.getElem?_map] at hv
     obtain⟨x,hx,rfl⟩:=Option.map_eq_some_iff.1 hv
     exact MV i p x hp (by simpa using hx)
    ·obtain⟨v,β',rfl,_,p2,p3,p4,p5⟩:=hp
     have hM:∀b,¬∃x,aS [] x∧β x=some b:=fun b ⟨x,hx,_⟩=>ez hx
     have hG:∀b,¬xy [] β b:=fun b ⟨x,_,hx,_⟩=>ez hx
     generalize xZ:(fun b=>I b∨((fresh w w' b∨xy [] β b)∧∀x,aS sout x→β' x≠some b))=I' at p3 p4
     have hm:=hr.Da (M:=fun b=>∃x,aS [] x∧β x=some b) (I':=I') p2 (fun b _=>hM b) (fun _ b _ _=>hM b) (fun b _ hb=>absurd hb (hM b)) (fun b hI=>by rw[←xZ];exact .inl hI)
      (fun b hI=>by
       rw[←xZ] at hI
       rcases hI with hI|⟨hI|hI,_⟩
       ·exact .inl hI
       ·exact .inr (.inl hI)
       ·exact absurd hI (hG b))
     have Pd:∀x b,aS sout x→β' x=some b→fresh w w' b:=fun x b hx hb=>(p5 x b hx ez hb).resolve_right (hG b)
     have EW:∀x:Nat,1000000≤x→x≠d:=fun x hx=>Nat.ne_of_gt (Nat.lt_of_lt_of_le mh (by omega))
     generalize hN:(fun x:Nat=>x=d∨(1000000≤x∧aS sout x))=N
     generalize hβ2:(fun x:Nat=>if x=d then β' 0 else if 1000000≤x∧aS sout x then β' x else β x)=β2
     generalize hsto:((d,.gk hl sz)::(999999,.heap xs)::s.sto:aG)=sto2
     have qX:∀x:Nat,aG.get sto2 x=if x=d then some (.gk hl sz) else if 1000000≤x then cY xs (x-1000000) else s.sto.get x:=fun x=>by
      rw[←hsto,aG.bY mh]
      by_cases hx:x=d
      ·subst hx;simp
      ·rw[di (Ne.symm hx),cond_false,if_neg hx]
       rcases sQ x with h|rfl|⟨j,rfl⟩
       ·rw[if_neg (by omega),aG.dX h,aG.dX h]
        simp only[aG.cp,di (show 999999≠x by omega),cond_false]
       ·rw[aG.cM,if_neg (by omega),aG.cM]
       ·rw[aG.cU,if_pos (by unfold Sym.hc;omega),show Sym.hc j-1000000=j by unfold Sym.hc;omega]
        rfl
     have TJ:∀x,1000000≤x→s.sto.get x=none:=fun x hx=>by
      have:x=Sym.hc (x-1000000):=by unfold Sym.hc;omega
      rw[this,aG.cU]
      unfold aG.hp
      rw[Vl]
      rfl
     have QG:∀x,1000000≤x→(aS sout x↔(cY xs (x-1000000)).isSome=true):=fun x hx=>by
      unfold aS
      rw[Pc,if_neg (by omega),if_neg (by omega)]
     have MW:β2 d=β' 0:=by rw[←hβ2];simp
     have Pe:∀x,1000000≤x→aS sout x→β2 x=β' x:=fun x h1 h2=>by
      rw[←hβ2];simp[EW x h1,h1,h2]
     have Vm:aS sout 0:=by unfold aS;rw[Pc];rfl
     have oG:∀x,N x→∃y,aS sout y∧β2 x=β' y∧(x=d∧y=0∨x=y∧1000000≤x):=fun x hx=>by
      rw[←hN] at hx
      rcases hx with rfl|⟨h1,h2⟩
      ·exact⟨0,Vm,MW,.inl ⟨rfl,rfl⟩⟩
      ·exact⟨x,h2,Pe x h1 h2,.inr ⟨rfl,h1⟩⟩
     have lI:∀x,1000000≤x→aS sout x→aS sto2 x:=fun x h1 h2=>by
      unfold aS
      rw[qX,if_neg (EW x h1),if_pos h1]
      exact(QG x h1).1 h2
     have wR:∀j len v,RE β' (aS sout) I' w' (.cv j len sz) v→RE β2 (aS sto2) I' w' (.cv j len sz) v:=fun j len v hv =>
      ⟨lI _ (by unfold Sym.hc;omega) hv.1,by rw[Pe _ (by unfold Sym.hc;omega) hv.1];exact hv.2⟩
     have hx:=hm.ext (sto':=sto2) (β':=β2) (N:=N)
      (fun x hx=>by
       rw[←hN] at hx
       rw[qX,if_neg (fun e=>hx (.inl e))]
       by_cases h1:1000000≤x
       ·rw[if_pos h1,TJ x h1]
        have:¬aS sout x:=fun h=>hx (.inr ⟨h1,h⟩)
        rw[QG x h1] at this
        cases hh:cY xs (x-1000000) with
        |none=>rfl
        |some _=>rw[hh] at this;exact absurd rfl this
       ·rw[if_neg h1])
      (fun x hx=>by
       rw[←hN] at hx
       rcases hx with rfl|⟨h1,_⟩
       ·exact⟨by unfold aS;rw[rb];simp,.inl (fun h=>absurd (hs _ h) (Nat.not_le_of_lt j0))⟩
       ·exact⟨by unfold aS;rw[TJ x h1];simp,.inr (by unfold gv;omega)⟩)
      (fun x hx=>by
       rw[←hN] at hx
       rw[←hβ2]
       simp only
       rw[if_neg (fun e=>hx (.inl e)),if_neg (fun h=>hx (.inr h))])
      (fun x b hx hb=>by
       obtain⟨y,hy,qT,Rv⟩:=oG x hx
       rw[qT] at hb
       obtain⟨sc,gD⟩:=Option.isSome_iff_exists.1 hy
       have GN:=Pd y b hy hb
       refine⟨((p3.1 y sc gD).2 b hb).1,((p3.1 y sc gD).2 b hb).2,.inl (Nat.le_trans hr.aN.size GN.1),fun q hq e => ?_,fun x' qV cI => ?_⟩
       ·have:=hr.lb q b hq e;have:=GN.1;omega
       ·obtain⟨y',yT,Ig,Rw⟩:=oG x' qV
        rw[Ig] at cI
        have:=p3.2 y y' b hy yT hb cI
        rcases Rv with ⟨r1,r2⟩|⟨r1,r2⟩<;>rcases Rw with ⟨r3,r4⟩|⟨r3,r4⟩
        ·rw[r1,r3]
        ·omega
        ·omega
        ·rw[r1,r3,this])
      (fun x sc hx hg=>by
       obtain⟨y,hy,qT,Rv⟩:=oG x hx
       rw[qX] at hg
       rcases Rv with ⟨rfl,rfl⟩|⟨rfl,h1⟩
       ·rw[if_pos rfl] at hg
        injection hg with hg;subst hg
        have Db:aG.get sout 0=some (.gk hl sz):=by rw[Pc];rfl
        rcases(p3.1 0 _ Db).1 with ⟨k1,k3⟩|⟨b,arr,el,k1,k3,k4⟩
        ·exact .inl ⟨qT.trans k1,k3⟩
        ·refine .inr ⟨b,arr,el,qT.trans k1,k3,fun i e he => ?_⟩
         obtain⟨u,q1,q2,q3⟩:=k4 i e he
         have he:(hl.map fun x=>EV.cv x.1 x.2 sz)[i]? = some e:=he
         rw[List.getElem?_map] at he
         obtain⟨p,hp,rfl⟩:=Option.map_eq_some_iff.1 he
         exact⟨u,q1,q2,wR _ _ _ q3⟩
       ·rw[if_neg (EW x h1),if_pos h1] at hg
        have Kf:aG.get sout x=some sc:=by rw[Pc,if_neg (by omega),if_neg (by omega)];exact hg
        have jb:eT sc=true:=by
         unfold cY at hg
         split at hg
         ·injection hg with hg;subst hg;rfl
         ·cases hg
        exact(p3.1 x sc Kf).1.closed jb qT (fun _ h=>h))
     have Ef:aS sto2 d:=by unfold aS;rw[qX];simp
     rw[ow]
     refine hk _ _ ⟨β2,I',?_⟩
     rw[hsto]
     refine hx.put (dst:=some d) (fun d' Ee=>by injection Ee with Ee;rw[←Ee];exact j0) ?_
     unfold Pb at GZ
     split at GZ
     ·injection GZ with GZ;subst GZ
      exact⟨Ef,by rw[MW];exact p4.2⟩
     ·injection GZ with GZ;subst GZ
      obtain⟨us,q1,q2,⟨u,q3,_,q4⟩,q5⟩:=p4
      exact⟨us,q1,q2,⟨u,q3,Ef,by rw[MW];exact q4⟩,q5⟩
     ·cases GZ
  ·cases aD
 ·cases aD
end
end Go.Proofs.YtfjfekodeplcoaaGreat.Sym
