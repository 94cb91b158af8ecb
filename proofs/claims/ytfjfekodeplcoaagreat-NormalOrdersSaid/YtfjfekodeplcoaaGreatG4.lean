/- Lemmas for the statements of this seat. -/
import Derived.Test.YtfjfekodeplcoaaGreatG3
import Derived.Shelf.SlicesE.Clone
import Derived.Shelf.SlSortCmp.WholeK
import Derived.KernelRfl
import Derived.Shelf.Lays
import Derived.Shelf.SlLaysE0
import Derived.Shelf.SlLaysF0
import Derived.Test.YtfjfekodeplcoaaGreatChecked
import Derived.Test.YtfjfekodeplcoaaGreatP4
import Derived.Shelf.Small.Strs
namespace Go.Proofs.YtfjfekodeplcoaaGreat.Sym
open Go Go.RowKit Go.Shelf Go.Lib
set_option linter.unusedVariables false
theorem IP(b o i:Nat):(⟨b,o,none⟩:Addr).add i=⟨b,o+i,none⟩:=by
 unfold Addr.add
 split
 ·rename_i h;subst h;rfl
 ·rfl
theorem vM{α:Type} : ∀(a:Ask α) (w:World),w.drawn≤(w.ask a).2.drawn
 |.done a,w=>by simp[World.ask]
 |.ask what range k,w=>by
  unfold World.ask
  dsimp only
  split
  ·exact vM (k 0) w
  ·exact Nat.le_trans (Nat.le_succ w.drawn) (vM (k ((Question.extern what range).cut (w.tape w.drawn (Question.extern what range)))) { w with drawn:=w.drawn+1 })
theorem Gn(w:World)(c:Sys):w.drawn≤(w.sys c).2.drawn:=by
 have:=vM (Kernel.perform c w.os) w
 unfold World.sys
 split
 ·exact Nat.le_refl _
 ·rename_i r os w' e
  rw[e] at this
  exact this
theorem ze{p:Program}{w w':World}{a:Addr}{v:Value}{b:Bool}{t:List Addr}(h:w.farStore p a v b = .ok (w',t)):w'.drawn=w.drawn:=by
 unfold World.farStore at h
 split at h
 ·split at h
  ·rename_i r hr
   injection h with h;subst h
   unfold World.viewStore at hr
   simp only[bind,Except.bind,pure,Except.pure] at hr
   repeat' (split at hr)
   all_goals first|(cases hr;done)|skip
   all_goals
    injection hr with hr
    injection hr with hr _
    rw[←hr]
  ·cases h
 ·cases h
theorem Gp{α:Type}{p:Program}(m:Sem α):∀{w w':World} {v:α},m.run p w = .ok v w'→w.drawn≤w'.drawn:=by
 induction m with
 |pure a=>intro w w' v h;injection h with h1 h2;rw[h2];exact Nat.le_refl _
 |load m a k ih =>
  intro w w' v h
  unfold Sem.run at h
  split at h
  ·exact ih _ h
  ·split at h
   ·exact ih _ h
   ·cases h
 |store m a v k ih =>
  intro w w' x h
  cases v
  case agg=>cases h
  case tuple=>cases h
  all_goals
   unfold Sem.run at h
   split at h
   ·split at h
    ·cases h
    ·exact ih (w:=w.setCell a _) h
   ·split at h
    ·rename_i hf
     have h1:=ze hf
     have h2:=ih h
     omega
    ·cases h
 |new o k ih=>intro w w' v h;exact ih _ (w := { w with heap:=w.heap.push o }) h
 |shape r k ih=>intro w w' v h;exact ih _ h
 |freeze a n k ih =>
  intro w w' v h
  have h1:=ih (w:=w.freeze a n) h
  have h2:(w.freeze a n).drawn=w.drawn:=by
   unfold World.freeze
   first|rfl|(split<;>rfl)
  omega
 |frozen a k ih=>intro w w' v h;exact ih _ h
 |getObj r k ih =>
  intro w w' v h
  unfold Sem.run at h
  split at h
  ·cases h
  ·exact ih _ h
  ·cases h
 |setObj r o k ih =>
  intro w w' v h
  unfold Sem.run at h
  split at h
  ·cases h
  ·exact ih (w := { w with heap:=w.heap.setIfInBounds r o }) h
  ·cases h
 |choose q k ih =>
  intro w w' v h
  unfold Sem.run at h
  split at h
  ·exact ih _ h
  ·exact Nat.le_trans (Nat.le_succ _) (ih _ (w := { w with drawn:=w.drawn+1 }) h)
 |sys c k ih=>intro w w' v h;exact Nat.le_trans (Gn w c) (ih _ h)
 |program k ih=>intro w w' v h;exact ih _ h
 |mark m k ih=>intro w w' v h;exact ih h
 |halt h'=>intro w w' v h;cases h
section
variable {P:Program} {ρ:Ren}
theorem sJ{w:World}{ops:Array Oper}{rest:List Oper}{o:Oper}{a:Act}{Q:Exit→Act→World→Prop}(UP:o.guard=none)(s x:Operand)(t:TypeId)
  (ho:o.op = .call { callee := .builtin .append,args := #[s,x],argTypes := #[t,t] })
  (base:Nat) (e:TypeId) (i:TypeInfo) (z:Value) (size bytes:Nat) (ht:P.underlying t=some (.slice e)) (hi:P.info? e=some i) (hz:i.zero=some z)
  (pI:i.size=size) (Jh:i.bytes=bytes) (xx:z.cells.size=size) (jo:0<size)
  (v:Value) (n:Nat) (xs:List Value) (hs:a.eval s=v) (IQ:w.ownsRow base e size v n xs)
  (ad:Addr) (m c:Nat) (news:List Value) (hx:a.eval x = .slice (some ad) m c) (hl:news.length=m*size) (Ch:∀j u,news[j]? = some u→w.cell? (ad.add j)=some u) (h1:∀u∈news,u.oneCell'=true)
  (NU:n+m≤maxLen) (th:(n+m)*bytes≤140737488355328) (OV:base≤w.heap.size)
  (h:∀v' w',w'.ownsRow base e size v' (n+m) (xs++news)→w.grownBy w' v.ownBlock→w.drawn≤w'.drawn→wpList P ops Q rest (a.put o.dst v') w') :
  wpList P ops Q (o::rest) a w:=by
 refine wpList_plain UP fun K hK => ?_
 obtain⟨v',w',hr,h2,h3,_⟩:=run_append_own (P:=P) w base t o.type e i z size bytes ht hi hz pI Jh xx jo v n xs IQ ad m c news hl Ch h1 NU th OV
 unfold Oper.wp execOp
 simp only[ho,resolve,invoke,builtin,Sem.run_bind,Sem.run_pure,Result.andThen_ok,List.map_toArray,List.map_cons,List.map_nil,hs,hx,hr]
 exact hK _ _ (h v' w' h2 h3 (Gp _ hr))
set_option maxHeartbeats 2000000 in
set_option maxRecDepth 100000 in
theorem C8(L:SlLaysE0.n41 P ρ)(i0:TypeInfo)(z:Value)(size bytes:Nat)(hi:P.info? (ρ.t 23)=some i0)(RL:i0.zero=some z)(EB:i0.size=size)(G6:i0.bytes=bytes)(xx:z.cells.size=size)(jo:0<size)
  (z23:∀w,(Go.sizeOf (ρ.t 23)).run P w = .ok size w) (ad:Addr) (n c:Nat) (news:List Value) (w:World) (hl:news.length=n*size) (hn:n≤maxLen) (M3:n*bytes≤140737488355328)
  (hc:∀j u,news[j]? = some u→w.cell? (ad.add j)=some u) (h1:∀u∈news,u.oneCell'=true) :
  Calls P (ρ.f 41) #[.slice (some ad) n c] w fun e w'=>∃v',e = .returned v'∧w'.ownsRow w.heap.size (ρ.t 23) size v' n news∧wx w.heap.size w w':=by
 have mixed:=L.mixed;have t4:=L.t4;have a4:=L.a4;have z4:=L.z4;have v4:=L.v4;have t22:=L.t22;have a22:=L.a22;have z22:=L.z22;have v22:=L.v22
 have VH:∀(w:World) (a:Option Addr) (n c n' c':Nat),(binOp .eql (ρ.t 22) (.slice a n c) (.slice none n' c')).run P w = .ok (.bool a.isNone) w:=fun w a n c n' c'=>Lib.run_eql_slice_nil w _ _ a n c n' c' L.t22
 have VI:∀w,Sem.run P (underlying (ρ.t 22)) w = .ok (TypeDesc.slice (ρ.t 23)) w:=run_underlying t22
 have A:Aside (∀j u,news[j]? = some u→w.cell? (ad.add j)=some u):=hc
 clear hc
 obtain⟨_,_,FG⟩:=L.f41
 go_enter FG,SlBodyN.n41_ntmps ρ
 go_wp2_with (at_builtin;refine sJ rfl _ _ (ρ.t 22) rfl w.heap.size (ρ.t 23) i0 z size bytes t22 hi RL EB G6 xx jo _ _ _ rfl (World.ownsRow_made w #[] 0 (Nat.le_refl _) (Nat.zero_le _) (by simp)) ad n c news rfl ?qc1 ?qc2 ?qc3 ?qc4 ?qc5 ?qc6 ?_)
 case qc1=>exact hl
 case qc2 =>
  intro j u hj
  exact Lib.cell?_alloc_some _ (A.out j u hj)
 case qc3=>exact h1
 case qc4=>rw[Nat.zero_add];exact hn
 case qc5=>rw[Nat.zero_add];exact M3
 case qc6=>simp
 intro v' w1 IQ uf u7
 go_wp2
 go_ret
 refine⟨v',rfl,by simpa using IQ,?_,fun _=>u7⟩
 exact((Below.refl _ w).alloc (Nat.le_refl _) _).grown uf (by simp) (by intro k hk;simp[Value.ownBlock] at hk;omega)
theorem AD{α:Type}{k:Nat} : ∀{xs:List (List α)},(∀row∈xs,row.length=k)→xs.flatten.length=xs.length*k
 |[],_=>by simp
 |x::xs,h=>by rw[List.flatten_cons,List.length_append,h x (List.mem_cons_self ..),AD (fun r hr=>h r (List.mem_cons_of_mem _ hr)),List.length_cons,Nat.succ_mul];omega
theorem IS(L:SlLaysE0.n41 P ρ)(hf:mu P (ρ.f 41))(i0:TypeInfo)(z:Value)(k bytes:Nat)(hi:P.info? (ρ.t 23)=some i0)(RL:i0.zero=some z)(EB:i0.size=k)(G6:i0.bytes=bytes)(xx:z.cells.size=k)(JO:0<k)
  (z23:∀w,(Go.sizeOf (ρ.t 23)).run P w = .ok k w) (xs:List (List PV)) (hlen:∀row∈xs,row.length=k) (M3:xs.length*bytes≤140737488355328) (Dy:0<bytes) :
  aw P (ρ.f 41) [.pv (.list xs)] [] (.row 0 0 xs.length k) [(0,.pure xs.flatten)]:=by
 refine⟨hf,fun I w β vs hI Co hl z7 => ?_⟩
 obtain⟨v,rfl⟩:∃v,vs = #[v]:=by
  match vs,hl with
  |⟨[v]⟩,_=>exact⟨v,rfl⟩
 have hv:Rd I w (.list xs) v:=z7 0 _ v rfl rfl
 have d0:bk [(0,SC.pure xs.flatten)] 0:=by unfold bk;rw[aN.bW (by omega)];rfl
 have dq:∀q,bk [(0,SC.pure xs.flatten)] q→q=0:=fun q h=>by
  unfold bk at h
  rw[aN.bW (by omega),aN.get_nil] at h
  cases hb:Nat.beq 0 q with
  |true=>exact(Nat.eq_of_beq_eq_true hb).symm
  |false=>simp[hb] at h
 have core:∀(ad:Addr) (c:Nat) (news:List Value),v = .slice (some ad) xs.length c→news.length=xs.length*k→(∀(j:Nat) u,news[j]? = some u→w.cell? (ad.add j)=some u)→(∀u∈news,u.oneCell'=true) →
   (∀(q:Nat) p,xs.flatten[q]? = some p→∃u,news[q]? = some u∧Rd I w p u)→Calls P (ρ.f 41) #[v] w (pJ [] [(0,.pure xs.flatten)] (.row 0 0 xs.length k) β I w):=by
  rintro ad c news rfl hnl Sl Dx hnr
  have QL:xs.length≤maxLen:=by
   have:xs.length≤xs.length*bytes:=Nat.le_mul_of_pos_right _ Dy
   unfold maxLen;omega
  refine(C8 L i0 z k bytes hi RL EB G6 xx JO z23 ad xs.length c news w hnl QL M3 Sl Dx).mono ?_
  rintro e w' ⟨v',rfl,IQ,hbel⟩
  have yI:∀b o,I b→w'.cell? ⟨b,o,none⟩=w.cell? ⟨b,o,none⟩:=fun b o hb=>eX (hbel.block b (hI b hb)) o
  rcases IQ.2 with ⟨rfl,Gg⟩|⟨g,cap,cur,rfl,UQ,hg,RM,VJ,tQ,OW⟩
  ·have hx:xs=[]:=List.length_eq_zero_iff.1 Gg
   subst hx
   refine⟨_,fun _=>none,rfl,fun x hx=>absurd hx fY,gD.xH hbel,⟨fun r sc hr=>⟨.inl ⟨rfl,?_⟩,fun b hb=>by cases hb⟩,fun r r' b _ _ hb=>by cases hb⟩,⟨d0,.inl ⟨rfl,rfl,rfl⟩⟩,fun x b _ _ hb=>by cases hb⟩
   have:r=0:=dq r (by unfold bk;rw[hr];rfl)
   subst this
   rw[aN.bW (by omega)] at hr
   injection hr with hr;subst hr;rfl
  ·have Nu:g<w'.heap.size:=(Array.getElem?_eq_some_iff.1 hg).1
   have UR:¬I g:=fun h=>by have:=hI g h;omega
   refine⟨_,fun _=>some g,rfl,fun x hx=>absurd hx fY,gD.xH hbel,⟨fun r sc hr => ?_,fun r r' b h1 h2 _ _=>(dq r h1).trans (dq r' h2).symm⟩,⟨d0,.inr ⟨g,cap,rfl,rfl,RM,ρ.t 23,cur.size,?_,by omega⟩⟩,fun x b _ _ hb => .inl ?_⟩
   ·have:r=0:=dq r (by unfold bk;rw[hr];rfl)
    subst this
    rw[aN.bW (by omega)] at hr
    injection hr with hr;subst hr
    refine⟨.inr ⟨g,cur,ρ.t 23,rfl,hg,fun j e he => ?_⟩,fun b hb => ?_⟩
    ·unfold SC.pE at he
     rw[List.getElem?_map] at he
     cases hp:xs.flatten[j]? with
     |none=>rw[hp] at he;cases he
     |some p =>
      rw[hp] at he
      injection he with he;subst he
      obtain⟨u,hu,hr⟩:=hnr j p hp
      refine⟨u,?_,Dx u (List.mem_of_getElem? hu),hr.mono (fun b hb => .inl hb) yI⟩
      rw[←OW,List.getElem?_take] at hu
      split at hu
      ·simpa using hu
      ·cases hu
    ·injection hb with hb;subst hb
     refine⟨Nu,fun h => ?_⟩
     rcases h with h|⟨_,h⟩
     ·exact UR h
     ·exact h 0 d0 rfl
   ·simp[World.shape?,hg]
   ·injection hb with hb;subst hb
    exact⟨UQ,Nu⟩
 cases hv with
 |nil a c =>
  cases a with
  |none =>
   refine(AnyE.slices_Clone_nil L 0 c w).mono ?_
   rintro e w' ⟨rfl,rfl⟩
   refine⟨_,fun _=>none,rfl,fun x hx=>absurd hx fY,gD.refl _ _,⟨fun r sc hr=>⟨.inl ⟨rfl,?_⟩,fun b hb=>by cases hb⟩,fun r r' b _ _ hb=>by cases hb⟩,⟨d0,.inl ⟨rfl,rfl,rfl⟩⟩,fun x b _ _ hb=>by cases hb⟩
   have:r=0:=dq r (by unfold bk;rw[hr];rfl)
   subst this
   rw[aN.bW (by omega)] at hr
   injection hr with hr;subst hr;rfl
  |some ad=>exact core ad c [] rfl (by simp) (fun j u h=>by simp at h) (fun u h=>by simp at h) (fun q p h=>by simp at h)
 |list _ b o c s f hc hb hs ho h =>
  by_cases AR:xs=[]
  ·subst AR
   exact core ⟨b,o,none⟩ c [] rfl (by simp) (fun j u h=>by simp at h) (fun u h=>by simp at h) (fun q p h=>by simp at h)
  ·have US:s=k:=by
    obtain⟨x,t,rfl⟩:=List.exists_cons_of_ne_nil AR
    rw[←hs 0 x rfl,hlen x (List.mem_cons_self ..)]
   subst US
   have GO:∀q,q<xs.length*s→∃row x,xs[q/s]? = some row∧row[q%s]? = some x∧xs.flatten[q]? = some x:=fun q hq=>by
    have h1:q/s<xs.length:=Nat.div_lt_of_lt_mul (by rw[Nat.mul_comm];exact hq)
    have e1:=List.getElem?_eq_getElem h1
    have h2:q%s<(xs[q/s]).length:=by rw[hlen _ (List.getElem_mem h1)];exact Nat.mod_lt _ JO
    have e2:=List.getElem?_eq_getElem h2
    refine⟨_,_,e1,e2,?_⟩
    have:=pG hlen e1 e2
    rw[show q/s*s+q%s=q by rw[Nat.mul_comm];exact Nat.div_add_mod q s] at this
    exact this
   refine core ⟨b,o,none⟩ c ((List.range (xs.length*s)).map fun q=>f (q/s) (q%s)) rfl (by simp) ?_ ?_ ?_
   ·intro j u hj
    rw[List.getElem?_map] at hj
    by_cases DW:j<xs.length*s
    ·rw[List.getElem?_range DW] at hj
     injection hj with hj;subst hj
     obtain⟨row,x,e1,e2,_⟩:=GO j DW
     have:=(ho _ _ row x e1 e2).2
     rw[IP,←this,show j/s*s+j%s=j by rw[Nat.mul_comm];exact Nat.div_add_mod j s]
    ·rw[List.getElem?_eq_none (by simpa using DW)] at hj;cases hj
   ·intro u hu
    obtain⟨j,hj,rfl⟩:=List.mem_map.1 hu
    obtain⟨row,x,e1,e2,_⟩:=GO j (by simpa using hj)
    exact(h _ _ row x e1 e2).iD (ho _ _ row x e1 e2).1
   ·intro q p hp
    have hq:q<xs.length*s:=by
     have:=(List.getElem?_eq_some_iff.1 hp).1
     rwa[AD hlen] at this
    obtain⟨row,x,e1,e2,e3⟩:=GO q hq
    rw[hp] at e3;injection e3 with e3;subst e3
    exact⟨_,by rw[List.getElem?_map,List.getElem?_range hq];rfl,h _ _ row p e1 e2⟩
end
end Go.Proofs.YtfjfekodeplcoaaGreat.Sym
namespace Go.Proofs.YtfjfekodeplcoaaGreat.Sym
open Go Go.RowKit Go.Shelf
set_option linter.unusedVariables false
theorem mu.enters {P : Program} {f : FuncId} (hc : mu P f) : ∀ args w, (callFunc f args).run P w = .ok (.enter f args) w := by
  obtain ⟨fn, h1, h2, h3⟩ := hc
  intro args w
  have hb : fn.body ≠ none := by intro e; rw [e] at h2; cases h2
  have FU : fn.name ≠ "runtime.NumGoroutine" := by simpa using h3
  simp [callFunc, h1, FU, hb]
theorem zf{α:Type}{xs:List α}{i:Nat}{d:α}(h:i<xs.length):xs[i]? = some (xs.getD i d):=by
 rw[List.getD_eq_getElem?_getD,List.getElem?_eq_getElem h,Option.getD_some]
section
variable {P:Program} {ρ:Ren} {k off cap b:Nat} {I1:Nat→Prop} {w:World} {arr:Array Value} {el:TypeId} {xs:List (List PV)} {c:List PV→List PV→Int}
theorem zg(pL:∀(i j:Nat) row x,xs[i]? = some row→row[j]? = some x→∃u,arr[off+(i*k+j)]? = some u∧u.oneCell'=true∧Rd I1 w x u)
  (hlen:∀row∈xs,row.length=k) (h0:0<xs.length) (x:Nat):(∀v∈sI arr off k xs.length x,v.oneCell'=true)∧Rd I1 w (.agg (xs.getD (GR xs.length x) [])) (.agg (sI arr off k xs.length x).toArray):=by
 have hc:=qR (x:=x) h0
 have hr:=zf (d:=[]) hc
 have hl:=hlen _ (List.mem_of_getElem? hr)
 have key:∀j,j<k→∃p u,(xs.getD (GR xs.length x) [])[j]? = some p∧(sI arr off k xs.length x)[j]? = some u∧u.oneCell'=true∧Rd I1 w p u:=fun j hj=>by
  have hp:(xs.getD (GR xs.length x) [])[j]? = some ((xs.getD (GR xs.length x) [])[j]'(by rw[hl];exact hj)):=List.getElem?_eq_getElem _
  obtain⟨u,h1,h2,h3⟩:=pL _ j _ _ hr hp
  refine⟨_,u,hp,?_,h2,h3⟩
  rw[y0 hj,Array.getD_eq_getD_getElem?,h1];rfl
 refine⟨fun v hv => ?_,?_⟩
 ·obtain⟨j,hj,hv⟩:=List.getElem_of_mem hv
  rw[uP] at hj
  obtain⟨p,u,_,h2,h3,_⟩:=key j hj
  rw[List.getElem?_eq_getElem (by rw[uP];exact hj)] at h2
  injection h2 with h2
  rw[←hv,h2];exact h3
 ·refine .agg _ _ (by rw[hl];simp[uP]) (fun j q hq => ?_) (fun j q u hq hu => ?_)
  ·have hj:j<k:=by rw[←hl];exact(List.getElem?_eq_some_iff.1 hq).1
   obtain⟨p,u,h1,h2,h3,h4⟩:=key j hj
   rw[hq] at h1;injection h1 with h1;subst h1
   exact PV.iS h4 h3
  ·have hj:j<k:=by rw[←hl];exact(List.getElem?_eq_some_iff.1 hq).1
   obtain⟨p,u',h1,h2,h3,h4⟩:=key j hj
   rw[hq] at h1;injection h1 with h1;subst h1
   rw[List.getElem?_toArray,h2] at hu
   injection hu with hu;subst hu
   exact h4
theorem zh{enc:Nat→List Value}{m:Nat}{d:Array Nat}{os:Array Obj}{x:Nat}(hx:x<w.heap.size)(hb:x≠b)(o:Nat) :
  (sortWorldK enc k w b off m d os).cell? ⟨x,o,none⟩=w.cell? ⟨x,o,none⟩ :=
 eX (by rw[zd _ _ _ _ _ _ _ _ _ hx,if_neg (fun h=>hb h.symm)]) o
theorem Gq(hS:Nn)(L:SlLaysF0.n6 P ρ)(aE:∀w,(isAgg (ρ.t 24)).run P w = .ok true w)(zE:∀w,(Go.sizeOf (ρ.t 24)).run P w = .ok k w)
  (hb:w.heap[b]? = some (.cells arr el (0,0))) (hI:∀x,I1 x→x<w.heap.size∧x≠b)
  (pL:∀(i j:Nat) row x,xs[i]? = some row→row[j]? = some x→∃u,arr[off+(i*k+j)]? = some u∧u.oneCell'=true∧Rd I1 w x u)
  (hlen:∀row∈xs,row.length=k) (h0:0<xs.length) (JO:0<k) (jo:xs.length<4611686018427387904) (hO:IM c xs)
  {g:FuncId} {ex:List EV} {cb:Array Value} (hex:ex.length=cb.size) (UT:∀(j:Nat) e v,ex[j]? = some e→cb[j]? = some v→RE (fun _=>none) (bk []) I1 w e v)
  (vD:∀a∈xs,∀b∈xs,aw P g (.pv (.agg a) :: .pv (.agg b)::ex) [] (.pv (.int .i64 (c a b))) []) :
  Calls P (ρ.f 6) #[.slice (some ⟨b,off,none⟩) xs.length cap,.func (.func g) #[] cb] w fun e w' =>
   e = .returned (.tuple #[])∧∃m os,w'=sortWorldK (sI arr off k xs.length) k w b off m (gd c xs) os:=by
 have vr:∀x,xs.getD (GR xs.length x) []∈xs:=fun x=>mJ (qR h0)
 have sN:∀x,¬bk [] x:=fun x h=>fY h
 have RN:b<w.heap.size:=(Array.getElem?_eq_some_iff.1 hb).1
 have eg:=(vD _ (vr 0) _ (vr 0)).1.enters
 have hH:Sort.HoldsK (sI arr off k xs.length) k w b off (Array.range xs.length):=by
  intro j hj
  rw[Sort.size_flatK,Array.size_range] at hj
  have hq:j/k<xs.length:=Nat.div_lt_of_lt_mul (by rwa[Nat.mul_comm])
  have hm:j%k<k:=Nat.mod_lt _ JO
  have hr:=zf (d:=[]) hq
  have hp:(xs.getD (j/k) [])[j%k]? = some ((xs.getD (j/k) [])[j%k]'(by rw[hlen _ (List.mem_of_getElem? hr)];exact hm)):=List.getElem?_eq_getElem _
  obtain⟨u,h1,h2,h3⟩:=pL _ _ _ _ hr hp
  have UU:j/k*k+j%k=j:=by rw[Nat.mul_comm];exact Nat.div_add_mod _ _
  refine⟨?_,by simp[World.frozen?,hb]⟩
  rw[Sort.get_flatK _ _ _ _ (by simpa using hj)]
  have e1:(Array.range xs.length)[j/k]! = j/k:=by
   rw[getElem!_pos _ _ (by simpa using hq)];simp
  rw[e1]
  have e2:=y0 (arr:=arr) (off:=off) (n:=xs.length) (x:=j/k) hm
  rw[BM hq,Array.getD_eq_getD_getElem?,h1] at e2
  rw[List.getElem!_eq_getElem?_getD,e2]
  rw[UU] at h1
  show w.cell? ⟨b,off+j,none⟩=some u
  simp[World.cell?,hb,h1]
 have hC:CmpLays P g cb (sI arr off k xs.length) k (Gm c xs) b off (Array.range xs.length).size w:=by
  intro m os dk Nq x y
  have hc:=vD _ (vr x) _ (vr y)
  have yI:∀(q o:Nat),I1 q→(sortWorldK (sI arr off k xs.length) k w b off m dk os).cell? ⟨q,o,none⟩=w.cell? ⟨q,o,none⟩:=fun q o hq=>zh (hI q hq).1 (hI q hq).2 o
  have rx:=(zg pL hlen h0 x).2.mono (fun _ h=>h) yI
  have ry:=(zg pL hlen h0 y).2.mono (fun _ h=>h) yI
  refine(hc.2 I1 _ (fun _=>none) _ (fun q hq => ?_) (iw _ _ _) (by simp[hex];omega) (fun j e v he hv => ?_)).mono fun e w' hp => ?_
  ·rw[tP];exact Nat.lt_of_lt_of_le (hI q hq).1 (Nat.le_add_right _ _)
  ·cases j with
   |zero =>
    rw[Array.getElem?_append_left (by simp)] at hv
    injection he with he;subst he
    simp at hv;subst hv;exact rx
   |succ j =>
    cases j with
    |zero =>
     rw[Array.getElem?_append_left (by simp)] at hv
     injection he with he;subst he
     simp at hv;subst hv;exact ry
    |succ j =>
     have gr:ex[j]? = some e:=by simpa using he
     have zn:cb[j]? = some v:=by
      rw[Array.getElem?_append_right (by simp)] at hv
      simpa using hv
     exact(UT j e v gr zn).mono (fun r h=>absurd h (sN r)) (fun _ h=>h) (fun _ h=>h) yI (fun r _ h=>absurd h (sN r))
  ·obtain⟨v,β',rfl,_,hk,_,z7,_⟩:=hp
   have z7:Rd _ _ (.int .i64 (Gm c xs x y)) v:=z7
   refine⟨congrArg _ (ql z7),?_⟩
   exact wx.grow hS ⟨⟨hk.os,hk.tape,hk.output,hk.size,fun q hq=>hk.block q hq (fun ⟨x,hx,_⟩=>sN x hx)⟩,hk.drawn⟩
 have OX:=AnyQ.slices_SortFunc_eq L k aE zE (sI arr off k xs.length) (uP arr off k xs.length) (fun x=>(zg pL hlen h0 x).1) (Gm c xs) (hO.IN h0) g cb b off cap (Array.range xs.length) w eg hC hH RN (by simpa using jo)
 rw[Array.size_range] at OX
 exact OX
end
theorem C9{k:Nat} : ∀{ys:List (List PV)} {t:Nat} {e:PV},(∀row∈ys,row.length=k)→ys.flatten[t]? = some e→∃row,ys[t/k]? = some row∧row[t%k]? = some e∧t<ys.length*k
 |[],t,e,_,h=>by simp at h
 |r::ys,t,e,hl,h=>by
  have hr:r.length=k:=hl r (by simp)
  rw[List.flatten_cons] at h
  by_cases ht:t<k
  ·rw[List.getElem?_append_left (by omega)] at h
   refine⟨r,by rw[Nat.div_eq_of_lt ht];rfl,by rw[Nat.mod_eq_of_lt ht];exact h,?_⟩
   rw[List.length_cons,Nat.succ_mul];omega
  ·rw[List.getElem?_append_right (by omega),hr] at h
   obtain⟨row,h1,h2,h3⟩:=C9 (fun row hr=>hl row (by simp[hr])) h
   have hk:0<k:=by
    rcases Nat.eq_zero_or_pos k with h0|h0
    ·subst h0;simp at h3
    ·exact h0
   obtain⟨s,rfl⟩:∃s,t=s+k:=⟨t-k,by omega⟩
   rw[Nat.add_sub_cancel] at h1 h2 h3
   refine⟨row,by rw[Nat.add_div_right _ hk];exact h1,by rw[Nat.add_mod_right];exact h2,?_⟩
   rw[List.length_cons,Nat.succ_mul];omega
theorem zi{c:List PV→List PV→Int}{xs:List (List PV)}{k:Nat}(hO:IM c xs)(h0:0<xs.length)(hl:∀row∈xs,row.length=k):∀row∈lK c xs,row.length=k :=
 fun row hr=>hl row ((wu hO h0).mem_iff.1 hr)
section
variable {P:Program} {ρ:Ren} {k n:Nat} {xs:List (List PV)} {c:List PV→List PV→Int}
theorem KD(hS:Nn)(L:SlLaysF0.n6 P ρ)(hf:mu P (ρ.f 6))(aE:∀w,(isAgg (ρ.t 24)).run P w = .ok true w)(zE:∀w,(Go.sizeOf (ρ.t 24)).run P w = .ok k w)
  (pre post:List PV) (y:Nat) (hy:y<999999) (hlen:∀row∈xs,row.length=k) (hn:xs.length=n) (h0:0<n) (JO:0<k) (jo:n<4611686018427387904) (hO:IM c xs) {g:FuncId}
  (vD:∀a∈xs,∀b∈xs,fK P g [.agg a,.agg b] (.int .i64 (c a b))) :
  aw P (ρ.f 6) [.row y pre.length n k,.pv (.fn g)] [(y,.pure (pre++xs.flatten++post))] (.pv (.bh [])) [(y,.pure (pre++(lK c xs).flatten++post))]:=by
 subst hn
 refine⟨hf,fun I w β vs hI Co hl z7 => ?_⟩
 have Jk:bk [(y,SC.pure (pre++xs.flatten++post))] y:=by unfold bk;rw[aN.bW hy,Nat.beq_refl];rfl
 have LZ:∀{sc:SC} q,bk [(y,sc)] q→q=y:=fun q h=>by
  unfold bk at h
  rw[aN.bW hy,aN.get_nil] at h
  cases hb:Nat.beq y q with
  |true=>exact(Nat.eq_of_beq_eq_true hb).symm
  |false=>simp[hb] at h
 obtain⟨v,u,rfl⟩:∃v u,vs = #[v,u]:=by
  match vs,hl with
  |⟨[v,u]⟩,_=>exact⟨v,u,rfl⟩
 have hu:Rd I w (.fn g) u:=z7 1 _ u rfl rfl
 have hu:u = .func (.func g) #[] #[]:=by cases hu;rfl
 subst hu
 have hv:=z7 0 _ v rfl rfl
 obtain⟨BX,UW⟩:=Co.1 y (.pure (pre++xs.flatten++post)) (by rw[aN.bW hy,Nat.beq_refl];rfl)
 have BX:RB β (bk [(y,SC.pure (pre++xs.flatten++post))]) I w y ((pre++xs.flatten++post).map EV.pv):=BX
 obtain⟨_,⟨_,VK,_⟩|⟨b,cap,hb,rfl,NP,_⟩⟩:=hv
 ·omega
 obtain⟨arr,el,hg,pI,tQ⟩:=qq BX hb
 obtain⟨RN,RO⟩:=UW b hb
 have pL:∀(i j:Nat) row x,xs[i]? = some row→row[j]? = some x→∃u,arr[pre.length+(i*k+j)]? = some u∧u.oneCell'=true∧Rd I w x u:=fun i j row x hi hj=>by
  refine tQ _ x ?_
  have h1:=pG hlen hi hj
  rw[List.append_assoc,List.getElem?_append_right (Nat.le_add_right _ _),Nat.add_sub_cancel_left,List.getElem?_append_left (List.getElem?_eq_some_iff.1 h1).1]
  exact h1
 refine(Gq hS L aE zE hg (fun x hx=>⟨hI x hx,fun e=>RO (by rw[←e];exact hx)⟩) pL hlen h0 JO jo hO (g:=g) (ex:=[]) (cb := #[]) rfl (fun j e v he=>by simp at he) vD).mono fun e w' hp => ?_
 obtain⟨rfl,m,os,rfl⟩:=hp
 have Lm:=fun (x:Nat) (hx:x<w.heap.size)=>zd (sI arr pre.length k xs.length) k w b pre.length m (gd c xs) os x hx
 have RP:=Lm b RN
 rw[if_pos rfl,hg] at RP
 have IT:∀x,x<w.heap.size→x≠b→(sortWorldK (sI arr pre.length k xs.length) k w b pre.length m (gd c xs) os).heap[x]? = w.heap[x]? := fun x hx iN=>by
  rw[Lm x hx,if_neg (fun e=>iN e.symm)]
 have S2:=wq hO h0
 have FV:=pM (ys:=lK c xs) (zi hO h0 hlen)
 have RQ:=pM hlen
 have Jn:(lK c xs).length=xs.length:=(wu hO h0).length_eq
 rw[Jn] at FV
 refine⟨.tuple #[],β,rfl,fun _ _ _=>rfl,⟨rfl,rfl,rfl,by rw[tP];exact Nat.le_add_right _ _,fun x hx hM=>IT x hx (fun e=>hM ⟨y,Jk,e ▸ hb⟩),fun x hx => ?_,fun _=>Nat.le_add_right _ _⟩,⟨fun r sc hr => ?_,fun r r' _ h1 h2 _ _=>(LZ r h1).trans (LZ r' h2).symm⟩,.bh _ _ rfl (fun j c u hc=>by simp at hc),fun x q hx JN=>absurd (by rw[LZ x hx];exact Jk) JN⟩
 ·by_cases FZ:x=b
  ·subst FZ
   simp only[World.shape?,RP,hg,Option.map_some,Sort.onCells]
   simp[Sort.putCells]
  ·exact nO (IT x hx FZ)
 ·have UX:r=y:=LZ r (by unfold bk;rw[hr];rfl)
  subst UX
  rw[aN.bW hy,Nat.beq_refl,cond_true] at hr
  injection hr with hr;subst hr
  refine⟨.inr ⟨b,_,el,hb,RP,fun q e he => ?_⟩,fun b' cX => ?_⟩
  ·have ug:∀{p:PV} {u:Value},Rd I w p u→RE β (bk [(r,SC.pure (pre++(lK c xs).flatten++post))]) (fun Lb=>I Lb∨(fresh w (sortWorldK (sI arr pre.length k xs.length) k w b pre.length m (gd c xs) os) Lb∨BV [(r,SC.pure (pre++xs.flatten++post))] β Lb)∧∀x,bk [(r,SC.pure (pre++(lK c xs).flatten++post))] x→β x≠some Lb) (sortWorldK (sI arr pre.length k xs.length) k w b pre.length m (gd c xs) os) (.pv p) u :=
    fun h=>Rd.mono h (fun _ h => .inl h) (fun x o hx=>zh (hI x hx) (fun e=>RO (by rw[←e];exact hx)) o)
   unfold SC.pE at he
   rw[List.getElem?_map] at he
   cases hp:(pre++(lK c xs).flatten++post)[q]? with
   |none=>rw[hp] at he;cases he
   |some p =>
    rw[hp] at he
    injection he with he;subst he
    unfold Sort.putCells
    rw[Array.getElem?_mapIdx,Sort.size_flatK,S2]
    by_cases h1:q<pre.length
    ·rw[List.append_assoc,List.getElem?_append_left h1] at hp
     obtain⟨u,g1,g2,g3⟩:=tQ q p (by rw[List.append_assoc,List.getElem?_append_left h1];exact hp)
     refine⟨u,?_,g2,ug g3⟩
     rw[g1,Option.map_some,if_neg (by omega)]
    ·by_cases h2:q<pre.length+xs.length*k
     ·obtain⟨t,rfl⟩:∃t,q=pre.length+t:=⟨q-pre.length,by omega⟩
      rw[List.append_assoc,List.getElem?_append_right (by omega),Nat.add_sub_cancel_left,List.getElem?_append_left (by omega)] at hp
      obtain⟨row,r1,r2,r3⟩:=C9 (zi hO h0 hlen) hp
      unfold lK at r1
      rw[List.getElem?_map] at r1
      cases hz:(gd c xs).toList[t/k]? with
      |none=>rw[hz] at r1;cases r1
      |some z =>
       rw[hz] at r1
       injection r1 with r1
       have RR:z<xs.length:=su hO h0 (List.mem_of_getElem? hz)
       have S3:=zf (d:=[]) RR
       have r1:xs.getD z []=row:=r1
       rw[r1] at S3
       obtain⟨u,g1,g2,g3⟩:=pL _ _ _ _ S3 r2
       refine⟨u,?_,g2,ug g3⟩
       have OC:pre.length+t<arr.size:=by
        have:(pre++xs.flatten++post).length≤arr.size:=pI
        simp only[List.length_append,RQ] at this
        omega
       rw[Array.getElem?_eq_getElem OC,Option.map_some,if_pos ⟨by omega,by omega⟩,Nat.add_sub_cancel_left]
       rw[Sort.get_flatK _ _ _ _ (by rw[S2];omega)]
       have e1:(gd c xs)[t/k]! = z:=by
        have:(gd c xs)[t/k]? = some z:=by simpa using hz
        rw[getElem!_def,this]
       rw[e1]
       have e2:=y0 (arr:=arr) (off:=pre.length) (n:=xs.length) (x:=z) (Nat.mod_lt t JO)
       rw[BM RR,Array.getD_eq_getD_getElem?,g1] at e2
       rw[List.getElem!_eq_getElem?_getD,e2]
       rfl
     ·obtain⟨u,g1,g2,g3⟩:=tQ q p (by
       rw[List.getElem?_append_right (by rw[List.length_append,RQ];omega),List.length_append,RQ]
       rw[List.getElem?_append_right (by rw[List.length_append,FV];omega),List.length_append,FV] at hp
       exact hp)
      refine⟨u,?_,g2,ug g3⟩
      rw[g1,Option.map_some,if_neg (by omega)]
  ·rw[hb] at cX;injection cX with cX;subst cX
   refine⟨by rw[tP];omega,fun h => ?_⟩
   rcases h with h|⟨_,h⟩
   ·exact RO h
   ·exact h r (by unfold bk;rw[aN.bW hy,Nat.beq_refl];rfl) hb
end
end Go.Proofs.YtfjfekodeplcoaaGreat.Sym
namespace Go.Proofs.YtfjfekodeplcoaaGreat.Sym.Lay
open Go Go.Shelf Go.Proofs
set_option maxRecDepth 20000
def s8:Ren:=⟨fun n=>match n with|6=>106|14=>141|15=>142|20=>157|21=>158|22=>159|23=>160|24=>161|25=>162|26=>163|27=>164|28=>165|29=>166|46=>185|47=>186|48=>187|49=>188|50=>189|57=>196|n=>n,
 fun n=>match n with|0=>0|3=>3|4=>4|5=>5|9=>9|22=>23|24=>65|25=>128|39=>137|45=>158|46=>159|50=>163|53=>115|55=>136|66=>177|70=>181|76=>187|77=>96|n=>n,
 fun n=>n⟩
theorem Gr : SlLaysF0.n6 Tryz.prog s8 where
  mixed := by kernel_rfl
  f6 := ⟨ "slices.SortFunc[[]linkwork/api.Joint,linkwork/api.Joint]", by decide, Tryz.func106.trans (congrArg some (by kernel_rfl))⟩
  f14 := ⟨ "slices.pdqsortCmpFunc[linkwork/api.Joint]", by decide, Tryz.func141.trans (congrArg some (by kernel_rfl))⟩
  f15 := Tryz.func142.trans (congrArg some (by kernel_rfl))
  f20 := ⟨ "slices.insertionSortCmpFunc[linkwork/api.Joint]", by decide, Tryz.func157.trans (congrArg some (by kernel_rfl))⟩
  f21 := ⟨ "slices.heapSortCmpFunc[linkwork/api.Joint]", by decide, Tryz.func158.trans (congrArg some (by kernel_rfl))⟩
  f22 := ⟨ "slices.breakPatternsCmpFunc[linkwork/api.Joint]", by decide, Tryz.func159.trans (congrArg some (by kernel_rfl))⟩
  f23 := ⟨ "slices.choosePivotCmpFunc[linkwork/api.Joint]", by decide, Tryz.func160.trans (congrArg some (by kernel_rfl))⟩
  f24 := ⟨ "slices.reverseRangeCmpFunc[linkwork/api.Joint]", by decide, Tryz.func161.trans (congrArg some (by kernel_rfl))⟩
  f25 := ⟨ "slices.partialInsertionSortCmpFunc[linkwork/api.Joint]", by decide, Tryz.func162.trans (congrArg some (by kernel_rfl))⟩
  f26 := ⟨ "slices.partitionEqualCmpFunc[linkwork/api.Joint]", by decide, Tryz.func163.trans (congrArg some (by kernel_rfl))⟩
  f27 := ⟨ "slices.partitionCmpFunc[linkwork/api.Joint]", by decide, Tryz.func164.trans (congrArg some (by kernel_rfl))⟩
  f28 := Tryz.func165.trans (congrArg some (by kernel_rfl))
  f29 := Tryz.func166.trans (congrArg some (by kernel_rfl))
  f46 := ⟨ "slices.siftDownCmpFunc[linkwork/api.Joint]", by decide, Tryz.func185.trans (congrArg some (by kernel_rfl))⟩
  f47 := Tryz.func186.trans (congrArg some (by kernel_rfl))
  f48 := Tryz.func187.trans (congrArg some (by kernel_rfl))
  f49 := ⟨ "slices.medianAdjacentCmpFunc[linkwork/api.Joint]", by decide, Tryz.func188.trans (congrArg some (by kernel_rfl))⟩
  f50 := ⟨ "slices.medianCmpFunc[linkwork/api.Joint]", by decide, Tryz.func189.trans (congrArg some (by kernel_rfl))⟩
  f57 := ⟨ "slices.order2CmpFunc[linkwork/api.Joint]", by decide, Tryz.func196.trans (congrArg some (by kernel_rfl))⟩
  t0 := Tryz.underlying0
  a0 := Tryz.isAgg0
  z0 := Tryz.sizeOf0
  v0 := Tryz.zeroValue0
  t3 := Tryz.underlying3
  a3 := Tryz.isAgg3
  z3 := Tryz.sizeOf3
  v3 := Tryz.zeroValue3
  t4 := Tryz.underlying4
  a4 := Tryz.isAgg4
  z4 := Tryz.sizeOf4
  v4 := Tryz.zeroValue4
  t5 := Tryz.underlying5
  a5 := Tryz.isAgg5
  z5 := Tryz.sizeOf5
  v5 := Tryz.zeroValue5
  t9 := Tryz.underlying9
  a9 := Tryz.isAgg9
  z9 := Tryz.sizeOf9
  v9 := Tryz.zeroValue9
  t22 := Tryz.underlying23
  a22 := Tryz.isAgg23
  z22 := Tryz.sizeOf23
  v22 := Tryz.zeroValue23
  t25 := Tryz.underlying128
  a25 := Tryz.isAgg128
  z25 := Tryz.sizeOf128
  v25 := Tryz.zeroValue128
  t39 := Tryz.underlying137
  a39 := Tryz.isAgg137
  z39 := Tryz.sizeOf137
  v39 := Tryz.zeroValue137
  t45 := Tryz.underlying158
  a45 := Tryz.isAgg158
  z45 := Tryz.sizeOf158
  v45 := Tryz.zeroValue158
  t46 := Tryz.underlying159
  a46 := Tryz.isAgg159
  z46 := Tryz.sizeOf159
  v46 := Tryz.zeroValue159
  t50 := Tryz.underlying163
  a50 := Tryz.isAgg163
  z50 := Tryz.sizeOf163
  v50 := Tryz.zeroValue163
  t53 := Tryz.underlying115
  a53 := Tryz.isAgg115
  z53 := Tryz.sizeOf115
  v53 := Tryz.zeroValue115
  t55 := Tryz.underlying136
  a55 := Tryz.isAgg136
  z55 := Tryz.sizeOf136
  v55 := Tryz.zeroValue136
  t66 := Tryz.underlying177
  a66 := Tryz.isAgg177
  z66 := Tryz.sizeOf177
  v66 := Tryz.zeroValue177
  t70 := Tryz.underlying181
  a70 := Tryz.isAgg181
  z70 := Tryz.sizeOf181
  v70 := Tryz.zeroValue181
  t76 := Tryz.underlying187
  a76 := Tryz.isAgg187
  z76 := Tryz.sizeOf187
  v76 := Tryz.zeroValue187
  t77 := Tryz.underlying96
  a77 := Tryz.isAgg96
  z77 := Tryz.sizeOf96
  v77 := Tryz.zeroValue96
def Cw:Ren:=⟨fun n=>match n with|106=>108|213=>143|265=>167|n=>n,
 fun n=>match n with|3=>3|9=>9|n=>n,
 fun n=>n⟩
theorem KE:Lays.n106 Tryz.prog Cw where
 mixed:=by kernel_rfl
 f106:=Tryz.func108.trans (congrArg some (by kernel_rfl))
 f213:=Tryz.func143.trans (congrArg some (by kernel_rfl))
 f265:=Tryz.func167.trans (congrArg some (by kernel_rfl))
 t3:=Tryz.underlying3
 a3:=Tryz.isAgg3
 z3:=Tryz.sizeOf3
 v3:=Tryz.zeroValue3
 t9:=Tryz.underlying9
 a9:=Tryz.isAgg9
 z9:=Tryz.sizeOf9
 v9:=Tryz.zeroValue9
def Da:Ren:=⟨fun n=>match n with|41=>80|n=>n,
 fun n=>match n with|4=>4|22=>23|23=>65|n=>n,
 fun n=>n⟩
theorem RS : SlLaysE0.n41 Tryz.prog Da where
  mixed := by kernel_rfl
  f41 := ⟨ "slices.Clone[[]linkwork/api.Joint,linkwork/api.Joint]", by decide, Tryz.func80.trans (congrArg some (by kernel_rfl))⟩
  t4 := Tryz.underlying4
  a4 := Tryz.isAgg4
  z4 := Tryz.sizeOf4
  v4 := Tryz.zeroValue4
  t22 := Tryz.underlying23
  a22 := Tryz.isAgg23
  z22 := Tryz.sizeOf23
  v22 := Tryz.zeroValue23
def Db:Ren:=⟨fun n=>match n with|41=>81|n=>n,
 fun n=>match n with|4=>4|22=>24|23=>67|n=>n,
 fun n=>n⟩
theorem RT : SlLaysE0.n41 Tryz.prog Db where
  mixed := by kernel_rfl
  f41 := ⟨ "slices.Clone[[]linkwork/api.Driver,linkwork/api.Driver]", by decide, Tryz.func81.trans (congrArg some (by kernel_rfl))⟩
  t4 := Tryz.underlying4
  a4 := Tryz.isAgg4
  z4 := Tryz.sizeOf4
  v4 := Tryz.zeroValue4
  t22 := Tryz.underlying24
  a22 := Tryz.isAgg24
  z22 := Tryz.sizeOf24
  v22 := Tryz.zeroValue24
end Go.Proofs.YtfjfekodeplcoaaGreat.Sym.Lay
namespace Go.Proofs.YtfjfekodeplcoaaGreat.Sym
open Go Path fi Go.RowKit
set_option linter.unusedVariables false
def wS(a b:ByteArray):Int:=if strLt a b=true then -1 else if a=b then 0 else 1
theorem qS{a b:ByteArray} : wS a b<0↔strLt a b=true:=by
 unfold wS
 by_cases h:strLt a b=true
 ·rw[if_pos h];simp[h]
 ·rw[if_neg h]
  have:¬(if a=b then (0:Int) else 1)<0:=by split<;>decide
  simp[h,this]
theorem Fz{a b:ByteArray}(h:strLt a b=false):0≤wS a b:=by
 have:¬wS a b<0:=fun e=>by rw[qS,h] at e;cases e
 omega
theorem AE:∀(a b:List UInt8),(Op.bytesLess a b=true→Lib.compareBytes a b = -1)∧(a=b→Lib.compareBytes a b=0)∧(Op.bytesLess a b=false→a≠b→Lib.compareBytes a b=1)
 |[],[]=>by simp[Op.bytesLess,Lib.compareBytes]
 |[],b::y=>by simp[Op.bytesLess,Lib.compareBytes]
 |a::x,[]=>by simp[Op.bytesLess,Lib.compareBytes]
 |a::x,b::y=>by
  obtain⟨h1,h2,h3⟩:=AE x y
  have e:Op.bytesLess (a::x) (b::y)=(decide (a<b)||(a==b&&Op.bytesLess x y)):=rfl
  have f:Lib.compareBytes (a::x) (b::y)=if a<b then -1 else if b<a then 1 else Lib.compareBytes x y:=rfl
  rw[e,f]
  by_cases iO:a<b
  ·have OY:a≠b:=fun e=>by subst e;simp at iO
   simp[iO,OY]
  ·by_cases OY:b<a
   ·have iN:a≠b:=fun e=>by subst e;simp at OY
    simp[iO,OY,iN]
   ·have e:a=b:=UInt8.toNat.inj (by rw[UInt8.lt_iff_toNat_lt] at iO OY;omega)
    subst e
    simp only[iO,decide_false,Bool.false_or,beq_self_eq_true,Bool.true_and,if_false,List.cons.injEq,true_and,ne_eq]
    exact⟨h1,h2,h3⟩
theorem KF(a b:ByteArray):Lib.compareBytes a.data.toList b.data.toList=wS a b:=by
 obtain⟨h1,h2,h3⟩:=AE a.data.toList b.data.toList
 have e:strLt a b=Op.bytesLess a.data.toList b.data.toList:=by unfold strLt;rw[ByteArray.toList_eq,ByteArray.toList_eq]
 unfold wS
 rw[e]
 by_cases h:Op.bytesLess a.data.toList b.data.toList=true
 ·rw[if_pos h];exact h1 h
 ·rw[if_neg h]
  by_cases iO:a=b
  ·rw[if_pos iO];exact h2 (by rw[iO])
  ·rw[if_neg iO];exact h3 (by simpa using h) (fun e=>iO (ByteArray.ext (Array.ext' e)))
theorem pc {P : Program} {f : FuncId} {fn : Func} (h : P.funcs[f]? = some fn) (hb : (fn.body.isSome && !(fn.name == "runtime.NumGoroutine")) = true) : mu P f := by
  rw [Bool.and_eq_true, Bool.not_eq_true'] at hb
  exact ⟨fn, h, hb.1, hb.2⟩
theorem Compare(a b:ByteArray):Cp 108 [.str a,.str b] (vI (wS a b)):=by
 refine⟨pc Tryz.func108 (by kernel_rfl),fun I w β vs hI Co hl z7 => ?_⟩
 obtain⟨v,u,rfl⟩:∃v u,vs = #[v,u]:=by
  match vs,hl with
  |⟨[v,u]⟩,_=>exact⟨v,u,rfl⟩
 have hv:Rd I w (.str a) v:=z7 0 _ v rfl rfl
 have hu:Rd I w (.str b) u:=z7 1 _ u rfl rfl
 have hv:v = .string a:=by cases hv;rfl
 have hu:u = .string b:=by cases hu;rfl
 subst hv hu
 refine(Any.strings_Compare Lay.KE a b w).mono ?_
 rintro e w' ⟨rfl,rfl⟩
 rw[KF]
 exact⟨_,β,rfl,fun x hx=>absurd hx fY,gD.refl _ _,iw _ _ _,.int _ _,fun x b hx=>absurd hx fY⟩
theorem M4(l:List ag)(hl:l.length*64≤140737488355328):aw a7 80 [.pv (aZ ag.cells l)] [] (.row 0 0 l.length 7) [(0,(.pure ((l:List ag).map ag.cells).flatten))]:=by
 have h:=IS (P:=a7) (ρ:=Lay.Da) Lay.RS (pc Tryz.func80 (by kernel_rfl)) ((a7.info? 65).get (by kernel_rfl))
  ((((a7.info? 65).get (by kernel_rfl)).zero).get (by kernel_rfl)) 7 64 (by kernel_rfl) (by kernel_rfl) (by kernel_rfl) (by kernel_rfl) (by kernel_rfl) (by omega) Tryz.sizeOf65
  (l.map ag.cells) (fun row hr=>by obtain⟨a,_,rfl⟩:=List.mem_map.1 hr;rfl) (by rw[List.length_map];exact hl) (by omega)
 rw[List.length_map] at h
 exact h
theorem M5(l:List af)(hl:l.length*24≤140737488355328):aw a7 81 [.pv (aZ af.cells l)] [] (.row 0 0 l.length 2) [(0,(.pure ((l:List af).map af.cells).flatten))]:=by
 have h:=IS (P:=a7) (ρ:=Lay.Db) Lay.RT (pc Tryz.func81 (by kernel_rfl)) ((a7.info? 67).get (by kernel_rfl))
  ((((a7.info? 67).get (by kernel_rfl)).zero).get (by kernel_rfl)) 2 24 (by kernel_rfl) (by kernel_rfl) (by kernel_rfl) (by kernel_rfl) (by kernel_rfl) (by omega) Tryz.sizeOf67
  (l.map af.cells) (fun row hr=>by obtain⟨a,_,rfl⟩:=List.mem_map.1 hr;rfl) (by rw[List.length_map];exact hl) (by omega)
 rw[List.length_map] at h
 exact h
theorem PH(m:Nat)(h:m<256):∃b,Cp 142 [vU m] (vI b) :=
 ⟨_,sY.e0 m _ (qX.e7 m m (blen m) (by omega) (by omega) h (Nat.mod_eq_of_lt h) (Io.yN h) (by have:=nD (n:=m) (k:=8) h;omega) (by have:=nD (n:=m) (k:=8) h;omega))⟩
def S4:List PV→ByteArray
 |.str s::_=>s
 |_=>ByteArray.empty
def cJ(x y:List PV):Int:=wS (S4 x) (S4 y)
theorem Ln(xs:List (List PV)):IM cJ xs where
 irrefl a _ h:=by rw[cJ,qS,fA] at h;cases h
 trans a _ b _ c _ h1 h2:=by rw[cJ,qS] at *;exact o4 h1 h2
 ntrans a _ b _ c _ h1 h2 h3:=by
  rw[cJ,qS] at *
  simp only[Bool.not_eq_true] at h1 h2
  rw[uG h2 h1] at h3;cases h3
theorem EH(L:List ag)(h0:0<L.length)(hn:(L.map ag.name).Nodup):lK cJ (L.map ag.cells)=(b8 ag.name L).map ag.cells:=by
 have M0:0<(L.map ag.cells).length:=by rw[List.length_map];exact h0
 have hO:=Ln (L.map ag.cells)
 have he:lK cJ (L.map ag.cells)=((gd cJ (L.map ag.cells)).toList.map (L.getD · ⟨ByteArray.empty,0,0,0,0,0,0⟩)).map ag.cells:=by
  unfold lK
  rw[List.map_map]
  refine List.map_congr_left (fun i hi => ?_)
  have HM:=su hO M0 hi
  rw[List.length_map] at HM
  show(L.map ag.cells).getD i []=(L.getD i ⟨ByteArray.empty,0,0,0,0,0,0⟩).cells
  rw[List.getD_eq_getElem?_getD,List.getElem?_map,List.getElem?_eq_getElem HM,List.getD_eq_getElem?_getD,List.getElem?_eq_getElem HM]
  rfl
 rw[he]
 congr 1
 have hp:((gd cJ (L.map ag.cells)).toList.map (L.getD · (⟨ByteArray.empty,0,0,0,0,0,0⟩:ag))).Perm L:=by
  have:=(mK hO M0).1.map (L.getD · (⟨ByteArray.empty,0,0,0,0,0,0⟩:ag))
  rw[List.length_map,zc] at this
  exact this
 refine qb hn (sg ?_ ((hp.map ag.name).nodup_iff.2 hn)) hp
 have:=zO hO M0
 rw[he,List.pairwise_map] at this
 refine this.imp (fun {a b} h => ?_)
 have h:¬wS b.name a.name<0:=h
 rw[qS] at h
 simpa using h
theorem OZ(a b:ag):Cp 107 [a.pv,b.pv] (vI (wS a.name b.name)):=sZ.e0 a b _ (Compare _ _)
theorem Lo(a b:af):Cp 110 [a.pv,b.pv] (vI (wS a.name b.name)):=s7.e0 a b _ (Compare _ _)
theorem O0(L:List ag)(hl:L.length≤16)(hn:(L.map ag.name).Nodup):aw a7 106 [.row 100000 0 L.length 7,.pv (.fn 107)] [(100000,(.pure ((L:List ag).map ag.cells).flatten))] (.pv (.bh [])) [(100000,(.pure ((b8 ag.name L:List ag).map ag.cells).flatten))]:=by
 by_cases h0:L.length=0
 ·have:L=[]:=List.length_eq_zero_iff.1 h0
  subst this
  obtain⟨b,hb⟩:=PH 0 (by omega)
  refine lT.e0 [] 0 0 _ [] (by omega) hb ?_
  refine fz.e0 [] 0 0 0 b ?_
  refine fz.dC 0 0 0 b [] [] rfl rfl (by unfold aK;omega) (by omega) ?_
  refine dY.e0 [] 0 0 0 (by unfold aK;omega) ?_
  exact dY.dD 0 0 0 _ [] rfl rfl (by omega)
 ·have h:=KD (P:=a7) (ρ:=Lay.s8) (k:=7) (n:=L.length) (xs:=L.map ag.cells) (c:=cJ) (by unfold Nn;trivial) Lay.Gr (pc Tryz.func106 (by kernel_rfl)) Tryz.isAgg65 Tryz.sizeOf65 [] [] 100000 (by omega) (fun row hr=>by obtain⟨a,_,rfl⟩:=List.mem_map.1 hr;rfl) (by rw[List.length_map]) (by omega) (by omega) (by omega) (Ln _) (g:=107) (fun a ha b hb=>by
   obtain⟨x,hx,rfl⟩:=List.mem_map.1 ha
   obtain⟨y,hy,rfl⟩:=List.mem_map.1 hb
   exact OZ x y)
  rw[List.nil_append,List.append_nil,List.nil_append,List.append_nil,EH L (by omega) hn] at h
  exact h
def Lp(a b:af):Bool:=strLt a.name b.name
theorem RU(n:Nat)(RV:n≤12)(D T:List af)(hn:D.length+T.length=n)(sin:aN)(hs:sin.all (fun p=>Nat.ble aT.fn.ntmps p.1)=true)
  (hi:∀g:List af,sin.all (fun p=>pB p.1||(aN.get [(100000,(.pure ((g:List af).map af.cells).flatten))] p.1).isSome)=true) :
  aT.ar n 0 (n:Int) (D.length:Int) (D++T) sin (.pv (.bh [])) [(100000,(.pure ((isort Lp D T:List af).map af.cells).flatten))]:=by
 refine tO (lt:=Lp) (n:=n) (L1:=fun i X=>aT.ar n 0 (n:Int) (i:Int) X sin (.pv (.bh [])) [(100000,(.pure ((isort Lp D T:List af).map af.cells).flatten))])
  (L2:=fun i j X=>aT.aJ n 0 (n:Int) (i:Int) (j:Int) X sin (.pv (.bh [])) [(100000,(.pure ((isort Lp D T:List af).map af.cells).flatten))])
  (fun i X tf hX h=>aT.dC n 0 n i X hs (by omega) h)
  (fun i X tf hX h=>aT.vv n 0 n i 0 X hs (by omega) (by unfold aK;omega) h)
  (fun i j X x y tf Ny hX hx hy hc h => ?_) (fun i j X x y tf Ny hX hx hy hc h => ?_) T D hn ?_
 ·refine aT.nK n 0 n i ((j+1:Nat):Int) X (j+1) x j y _ j y (j+1) x (j+1) j hs (by omega) rfl (by omega) hx (by unfold aK;omega) (by omega) (by omega) hy (Lo x y) (qS.2 hc) (by omega) (by omega) hy rfl (by omega) hx rfl (by omega) (by omega) (by omega) (by omega) (by rw[List.length_set];omega) ?_
  rw[show (((j+1:Nat):Int)-1)=(j:Int) by omega]
  exact h
 ·exact aT.nL n 0 n i ((j+1:Nat):Int) X (j+1) x j y _ hs (by omega) rfl (by omega) hx (by unfold aK;omega) (by omega) (by omega) hy (Lo x y) (Fz hc) (by unfold aK;omega) h
 ·exact aT.dD n 0 n n _ hs (hi _) (Int.le_refl _)
theorem M6(L:List af)(hn:(L.map af.name).Nodup):isort Lp (L.take 1) (L.drop 1)=b8 af.name L:=by
 have hp:(isort Lp (L.take 1) (L.drop 1)).Perm L:=by
  have:=tN (lt:=Lp) (L.drop 1) (L.take 1)
  rwa[List.take_append_drop] at this
 refine qb hn (sg (yZ (lt:=Lp) (fun a b c h1 h2=>uG h1 h2) (fun a b h=>o5 h) _ _ ?_) ((hp.map af.name).nodup_iff.2 hn)) hp
 cases L with
 |nil=>exact .nil
 |cons x t=>exact List.pairwise_singleton ..
theorem O1(L:List af)(hl:L.length≤2)(hn:(L.map af.name).Nodup):aw a7 109 [.row 100000 0 L.length 2,.pv (.fn 110)] [(100000,(.pure ((L:List af).map af.cells).flatten))] (.pv (.bh [])) [(100000,(.pure ((b8 af.name L:List af).map af.cells).flatten))]:=by
 obtain⟨b,hb⟩:=PH L.length (by omega)
 refine lC.e0 L L.length L.length b _ (by omega) hb ?_
 refine fh.e0 L L.length 0 L.length b ?_
 refine fh.dC L.length 0 L.length b L _ rfl rfl (by unfold aK;omega) (by omega) ?_
 refine aT.e0 L L.length 0 L.length (by unfold aK;omega) ?_
 by_cases h0:L=[]
 ·subst h0
  exact aT.dD 0 0 0 _ [] rfl rfl (by decide)
 ·have h1:(L.take 1).length=1:=by
   obtain⟨x,t,rfl⟩:=List.exists_cons_of_ne_nil h0;rfl
  have h2:(L.take 1).length+(L.drop 1).length=L.length:=by
   rw[←List.length_append,List.take_append_drop]
  have key:=RU L.length (by omega) (L.take 1) (L.drop 1) h2 [(100000,(.pure ((L:List af).map af.cells).flatten))] rfl (fun _=>rfl)
  rw[List.take_append_drop,h1,M6 L hn] at key
  exact key
def kI(names:List ByteArray)(v:Int):ByteArray:=(names[v.toNat]?).getD ByteArray.empty
def Js(names:List ByteArray)(a b:Int):Bool:=strLt (kI names a) (kI names b)
theorem FA{names:List ByteArray}{k:Nat}{s:ByteArray}(h:names[k]? = some s):kI names (k:Int)=s:=by
 unfold kI;rw[Int.toNat_natCast,h];rfl
abbrev castL(l:List Nat):List Int:=l.map fun (k:Nat)=>(k:Int)
def rV(names:List ByteArray)(l:Nat):List Int:=castL (List.range l)++(names.drop l).map fun s=>((l+rk id (names.drop l) s:Nat):Int)
theorem FB{names:List ByteArray}{a b:Int}{s t:ByteArray}{k k':Nat}(ha:a=(k:Int))(hs:names[k]? = some s)(hb:b=(k':Int))(ht:names[k']? = some t) :
  aw a7 140 [eI a,eI b,(.ptr 100002 0)] [(100002,(.lit [(.pv (aZ aC names))]))] (.pv (vI (wS (kI names a) (kI names b)))) [(100002,(.lit [(.pv (aZ aC names))]))]:=by
 rw[show kI names a=s by rw[ha];exact FA hs,show kI names b=t by rw[hb];exact FA ht]
 exact qY.e0 a b names k s k' t _ ha hs hb ht (Compare s t)
def Dc(names:List ByteArray)(X:List Int):Prop:=∀v∈X,∃k s,v=((k:Nat):Int)∧names[k]? = some s
theorem RW(names:List ByteArray)(n:Nat)(RV:n≤12)(P0 D T:List Int)(hn:D.length+T.length=n)(hN:Dc names (D++T))(sin:aN)(hs:sin.all (fun p=>Nat.ble a6.fn.ntmps p.1)=true)
  (hi:∀g:List Int,sin.all (fun p=>pB p.1||(aN.get [(100000,(.pure ((g:List Int).map aq).flatten)),(100003,(.lit [(.pv (aZ aC names))]))] p.1).isSome)=true) :
  a6.ar P0.length n 0 (n:Int) (D.length:Int) (P0++(D++T)) names sin (.pv (.bh [])) [(100000,(.pure ((P0++isort (Js names) D T:List Int).map aq).flatten)),(100003,(.lit [(.pv (aZ aC names))]))]:=by
 have lZ:∀(X:List Int) (j:Nat),(P0++X)[P0.length+j]? = X[j]? := fun X j=>by rw[List.getElem?_append_right (Nat.le_add_right _ _),Nat.add_sub_cancel_left]
 have DV:∀(X:List Int) (j:Nat) (v:Int),(P0++X).set (P0.length+j) v=P0++X.set j v:=fun X j v=>by rw[List.set_append_right _ _ (Nat.le_add_right _ _),Nat.add_sub_cancel_left]
 have key:=tO (lt:=Js names) (n:=n) (L1:=fun i X=>Dc names X→a6.ar P0.length n 0 (n:Int) (i:Int) (P0++X) names sin (.pv (.bh [])) [(100000,(.pure ((P0++isort (Js names) D T:List Int).map aq).flatten)),(100003,(.lit [(.pv (aZ aC names))]))])
  (L2:=fun i j X=>Dc names X→a6.aJ P0.length n 0 (n:Int) (i:Int) (j:Int) (P0++X) names sin (.pv (.bh [])) [(100000,(.pure ((P0++isort (Js names) D T:List Int).map aq).flatten)),(100003,(.lit [(.pv (aZ aC names))]))])
  (fun i X tf hX h hN=>a6.dC _ n 0 n i _ names hs (by omega) (h hN))
  (fun i X tf hX h hN=>a6.vv _ n 0 n i 0 _ names hs (by omega) (by unfold aK;omega) (h hN))
  (fun i j X x y tf Ny hX hx hy hc h hN => ?_) (fun i j X x y tf Ny hX hx hy hc h hN => ?_) T D hn ?_
 ·exact key hN
 ·obtain⟨kx,sx,ex,gx⟩:=hN x (List.mem_of_getElem? hx)
  obtain⟨ky,sy,ey,gy⟩:=hN y (List.mem_of_getElem? hy)
  refine a6.nK P0.length n 0 n i ((j+1:Nat):Int) _ names (j+1) x j y _ j y (j+1) x (j+1) j hs (by omega) rfl (by omega) (by rw[lZ];exact hx) (by unfold aK;omega) (by omega) (by omega) (by rw[lZ];exact hy) (FB ex gx ey gy) (qS.2 hc) (by omega) (by omega) (by rw[lZ];exact hy) rfl (by omega) (by rw[lZ];exact hx) rfl (by omega) (by rw[List.length_append];omega) (by omega) (by omega) (by rw[List.length_set,List.length_append];omega) ?_
  rw[DV,DV,show(((j+1:Nat):Int)-1)=(j:Int) by omega]
  refine h (fun v hv => ?_)
  rcases List.mem_or_eq_of_mem_set hv with hv|rfl
  ·rcases List.mem_or_eq_of_mem_set hv with hv|rfl
   ·exact hN v hv
   ·exact⟨ky,sy,ey,gy⟩
  ·exact⟨kx,sx,ex,gx⟩
 ·obtain⟨kx,sx,ex,gx⟩:=hN x (List.mem_of_getElem? hx)
  obtain⟨ky,sy,ey,gy⟩:=hN y (List.mem_of_getElem? hy)
  exact a6.nL P0.length n 0 n i ((j+1:Nat):Int) _ names (j+1) x j y _ hs (by omega) rfl (by omega) (by rw[lZ];exact hx) (by unfold aK;omega) (by omega) (by omega) (by rw[lZ];exact hy) (FB ex gx ey gy) (Fz hc) (by unfold aK;omega) (h hN)
 ·intro _
  exact a6.dD _ n 0 n n _ names hs (hi _) (Int.le_refl _)
theorem O2(names:List ByteArray)(P0 L:List Int)(hl:L.length≤12)(hN:Dc names L):aw a7 139 [.row 100000 P0.length L.length 1,.lX 140 100001] [(100000,(.pure ((P0++L:List Int).map aq).flatten)),(100001,(.lit [(.pv (aZ aC names))]))] (.pv (.bh [])) [(100000,(.pure ((P0++isort (Js names) (L.take 1) (L.drop 1):List Int).map aq).flatten)),(100001,(.lit [(.pv (aZ aC names))]))]:=by
 obtain⟨b,hb⟩:=PH L.length (by omega)
 refine mZ.e0 (P0++L) P0.length L.length names L.length b _ (by omega) hb ?_
 refine gb.e0 (P0++L) P0.length L.length 0 L.length b names ?_
 refine gb.dC P0.length L.length 0 L.length b (P0++L) names _ rfl rfl (by unfold aK;omega) (by omega) ?_
 refine a6.e0 (P0++L) P0.length L.length 0 L.length names (by unfold aK;omega) ?_
 by_cases h0:L=[]
 ·subst h0
  exact a6.dD _ 0 0 0 _ _ names rfl rfl (by decide)
 ·have h1:(L.take 1).length=1:=by
   obtain⟨x,t,rfl⟩:=List.exists_cons_of_ne_nil h0;rfl
  have h2:(L.take 1).length+(L.drop 1).length=L.length:=by
   rw[←List.length_append,List.take_append_drop]
  have key:=RW names L.length (by omega) P0 (L.take 1) (L.drop 1) h2 (by rw[List.take_append_drop];exact hN) [(100000,(.pure ((P0++L:List Int).map aq).flatten)),(100003,(.lit [(.pv (aZ aC names))]))] rfl (fun _=>rfl)
  rw[List.take_append_drop,h1] at key
  exact key
theorem fH(l:List Nat):(castL l).length=l.length:=List.length_map ..
theorem uQ{l:List Nat}{k:Nat} : (castL l)[k]? = (l[k]?).map fun (k:Nat)=>(k:Int):=List.getElem?_map ..
theorem Dd{names:List ByteArray}{l:Nat}(hl:l≤names.length):(rV names l).length=names.length:=by
 unfold rV;rw[List.length_append,fH,List.length_range,List.length_map,List.length_drop];omega
theorem KG{names:List ByteArray}{l:Nat}(hl:l≤names.length)(hn:(names.drop l).Nodup){Z d:List Int}(hZ:Z.Perm (castL (List.range' l (names.length-l))))(hs:Z.Pairwise fun a b=>Js names b a=false)
  (hd:d.length=names.length) (h:∀(c k:Nat),(castL (List.range l)++Z)[c]? = some (k:Int)→d[k]? = some (c:Int)):d=rV names l:=by
 have sC:((names.drop l).map id).Nodup:=by rw[List.map_id];exact hn
 have S5:(Z.map (kI names)).Perm (names.drop l):=by
  refine(hZ.map (kI names)).trans (.of_eq ?_)
  apply List.ext_getElem?
  intro i
  rw[List.getElem?_map,uQ,List.getElem?_drop]
  by_cases hi:i<names.length-l
  ·rw[List.getElem?_range' hi]
   have e:=List.getElem?_eq_getElem (l:=names) (i:=l+i) (by omega)
   rw[e,show l+1*i=l+i by omega]
   show some (kI names ((l+i:Nat):Int))=_
   rw[FA e]
  ·rw[List.getElem?_eq_none (show (List.range' l (names.length-l)).length≤i by rw[List.length_range'];omega),List.getElem?_eq_none (by omega)];rfl
 have UY:(Z.map (kI names)).Nodup:=S5.nodup_iff.2 hn
 have RX:Kj (kI names) Z:=sg hs UY
 apply List.ext_getElem?
 intro i
 by_cases hi:i<names.length
 ·by_cases HM:i<l
  ·have:=h i i (by rw[List.getElem?_append_left (by rw[fH,List.length_range];exact HM),uQ,List.getElem?_range HM];rfl)
   rw[this]
   unfold rV
   rw[List.getElem?_append_left (by rw[fH,List.length_range];exact HM),uQ,List.getElem?_range HM];rfl
  ·have hm:(i:Int)∈Z:=hZ.mem_iff.2 (List.mem_map.2 ⟨i,by rw[List.mem_range'_1];omega,rfl⟩)
   obtain⟨p,hp⟩:=List.mem_iff_getElem?.1 hm
   have e:=List.getElem?_eq_getElem hi
   have h1:=h (l+p) i (by rw[List.getElem?_append_right (by rw[fH,List.length_range];omega),fH,List.length_range,Nat.add_sub_cancel_left];exact hp)
   have h2:=Bs RX hp
   rw[FA e] at h2
   have h3:rk (kI names) Z names[i]=rk id (names.drop l) names[i]:=by
    rw[←sh S5]
    exact(tH (key:=kI names) (key':=id) (kI names) (fun _=>rfl) Z _).symm
   rw[h1]
   unfold rV
   rw[List.getElem?_append_right (by rw[fH,List.length_range];omega),fH,List.length_range,List.getElem?_map,List.getElem?_drop,show l+(i-l)=i by omega,e,Option.map_some,←h3,h2]
 ·rw[List.getElem?_eq_none (by omega),List.getElem?_eq_none (by rw[Dd hl];omega)]
theorem Gs{α:Type}{xs:List α}(hn:xs.Nodup){i k:Nat}{x:α}(h1:xs[i]? = some x)(h2:xs[k]? = some x):i=k:=by
 have hp:=List.pairwise_iff_getElem.1 hn
 obtain⟨g1,e1⟩:=List.getElem?_eq_some_iff.1 h1
 obtain⟨g2,e2⟩:=List.getElem?_eq_some_iff.1 h2
 rcases Nat.lt_trichotomy i k with h3|h3|h3
 ·exact absurd (by rw[e1,e2]) (hp i k g1 g2 h3)
 ·exact h3
 ·exact absurd (by rw[e1,e2]) (hp k i g2 g1 h3)
theorem sorted(names:List ByteArray)(l:Nat)(hl:l≤names.length)(cP:names.length≤12)(hn:(names.drop l).Nodup):Cp 105 [aZ aC names,vI (l:Int)] (aZ aq (rV names l)):=by
 have GD:=hl
 refine dF.e0 names l (by omega) ?_
 have fill:∀(m d:Nat) (g:List Int),d+m=names.length→g.length=names.length→(∀k:Nat,k<d→g[k]? = some (k:Int)) →
   dF.ar (l:Int) names names.length (castL (List.range names.length)) (aZ aq (rV names l))→dF.ar (l:Int) names d g (aZ aq (rV names l)):=by
  intro m
  induction m with
  |zero =>
   intro d g hd hg hk h
   have e:g=castL (List.range names.length):=by
    apply List.ext_getElem?
    intro i
    rw[uQ]
    by_cases hi:i<names.length
    ·rw[hk i (by omega),List.getElem?_range hi];rfl
    ·rw[List.getElem?_eq_none (by omega),List.getElem?_eq_none (by rw[List.length_range];omega)];rfl
   have:d=names.length:=by omega
   subst this
   rw[e];exact h
  |succ m ih =>
   intro d g hd hg hk h
   refine dF.dC l names d g (by omega) (by omega) (by omega) (ih (d+1) _ (by omega) (by rw[List.length_set];exact hg) (fun k VL => ?_) h)
   rw[List.getElem?_set]
   by_cases hkd':d=k
   ·rw[if_pos hkd',if_pos (by omega),hkd']
   ·rw[if_neg hkd'];exact hk k (by omega)
 refine fill names.length 0 _ (by omega) (by rw[List.length_replicate]) (fun k hk=>by omega) ?_
 have S6:castL (List.range names.length)=castL (List.range l)++castL (List.range' l (names.length-l)):=by
  unfold castL
  rw[←List.map_append]
  congr 1
  rw[List.range_eq_range',List.range_eq_range']
  have:=List.range'_append (s:=0) (m:=l) (n:=names.length-l) (step:=1)
  rw[Nat.zero_add,Nat.one_mul] at this
  rw[this,show l+(names.length-l)=names.length by omega]
 have S7:(castL (List.range' l (names.length-l))).length=names.length-l:=by rw[fH,List.length_range']
 have hN:Dc names (castL (List.range' l (names.length-l))):=fun v hv=>by
  obtain⟨k,hk,rfl⟩:=List.mem_map.1 hv
  rw[List.mem_range'_1] at hk
  exact⟨k,_,rfl,List.getElem?_eq_getElem (by omega)⟩
 have Lq:∀(Z:List Int),Z.Perm (castL (List.range' l (names.length-l)))→Z.Pairwise (fun a b=>Js names b a=false)→dF.aJ names 0 (castL (List.range l)++Z) (List.replicate names.length (0:Int)) (aZ aq (rV names l)):=by
  intro Z hp hw
  have VM:Z.length=names.length-l:=by rw[hp.length_eq,S7]
  have RR:(castL (List.range l)++Z).length=names.length:=by rw[List.length_append,fH,List.length_range];omega
  have S8:(castL (List.range l)++Z).Perm (castL (List.range names.length)):=by rw[S6];exact hp.append_left _
  have RY:(castL (List.range l)++Z).Nodup:=by
   refine S8.nodup_iff.2 (List.pairwise_map.2 (List.nodup_range.imp fun {a b} h e=>h (by omega)))
  have back:∀(m c:Nat) (d:List Int),c+m=names.length→d.length=names.length→(∀(c' k:Nat),c'<c→(castL (List.range l)++Z)[c']? = some (k:Int)→d[k]? = some (c':Int)) →
    dF.aJ names c (castL (List.range l)++Z) d (aZ aq (rV names l)):=by
   intro m
   induction m with
   |zero =>
    intro c d hc hd h
    have e:=KG GD hn hp hw hd (fun c' k hk=>h c' k (by have:=(List.getElem?_eq_some_iff.1 hk).1;omega) hk)
    rw[←e]
    exact dF.nL names c _ d (by omega) hd.symm
   |succ m ih =>
    intro c d hc hd h
    have hz:=List.getElem?_eq_getElem (l:=castL (List.range l)++Z) (i:=c) (by omega)
    obtain⟨k,hk,ek⟩:=List.mem_map.1 (S8.mem_iff.1 (List.mem_of_getElem? hz))
    have hk:k<names.length:=by simpa using hk
    rw[←ek] at hz
    refine dF.nK names c _ d _ k (by omega) hz rfl (by omega) (by omega) (by omega) (ih (c+1) _ (by omega) (by rw[List.length_set];exact hd) (fun c' k' Gz Du => ?_))
    rw[List.getElem?_set]
    by_cases e:k=k'
    ·subst e
     have:c'=c:=Gs RY Du hz
     rw[if_pos rfl,if_pos (by omega),this]
    ·rw[if_neg e]
     refine h c' k' ?_ Du
     rcases Nat.lt_or_ge c' c with h1|h1
     ·exact h1
     ·have:c'=c:=by omega
      subst this
      rw[hz] at Du;injection Du with Du
      exact absurd (by omega) e
  exact back names.length 0 _ (by omega) (by rw[List.length_replicate]) (fun c' k h=>by omega)
 by_cases cN:l<names.length
 ·have hS:=O2 names (castL (List.range l)) (castL (List.range' l (names.length-l))) (by omega) hN
  rw[S7,fH,List.length_range] at hS
  have hp:=tN (lt:=Js names) ((castL (List.range' l (names.length-l))).drop 1) ((castL (List.range' l (names.length-l))).take 1)
  rw[List.take_append_drop] at hp
  have hw:=yZ (lt:=Js names) (fun a b c h1 h2=>uG h1 h2) (fun a b h=>o5 h) ((castL (List.range' l (names.length-l))).drop 1) ((castL (List.range' l (names.length-l))).take 1)
   (by cases castL (List.range' l (names.length-l)) with
     |nil=>exact .nil
     |cons x t=>exact List.pairwise_singleton ..)
  generalize isort (Js names) ((castL (List.range' l (names.length-l))).take 1) ((castL (List.range' l (names.length-l))).drop 1)=Z at hS hp hw
  refine dF.dD l names names.length _ l (castL (List.range l)++Z) (Nat.le_refl _) rfl cN GD ?_ (by omega) (Lq Z hp hw)
  rw[Nat.zero_add,Nat.mul_one,S6]
  exact hS
 ·have PI:l=names.length:=by omega
  have h:=Lq [] (by rw[PI,Nat.sub_self];exact .refl _) .nil
  rw[List.append_nil] at h
  rw[←PI] at h ⊢
  obtain⟨b,hb⟩:=PH 0 (by omega)
  refine dF.kM l names l _ l (by omega) rfl (by omega) PI ?_ (by omega) (by rw[←PI];exact h)
  refine mE.e0 [] names 0 b rfl hb ?_
  refine fV.e0 [] 0 0 b names ?_
  refine fV.dC [] 0 0 b names rfl rfl (by unfold aK;omega) (by omega) ?_
  refine ef.e0 [] 0 0 names (by unfold aK;omega) ?_
  exact ef.dD [] 0 0 _ names rfl rfl (by omega)
theorem ep{α:Type}{xs:List α}{i:Nat}{x:α}(h:xs[i]? = some x):xs.take (i+1)=xs.take i++[x]:=by
 rw[List.take_add_one,h];rfl
theorem O3{f:FuncId}{args:List EV}{sin:aN}{fs:List FE}{a b c:Nat}{p q r:List PV}{s:aN}(ha:a<999999)(hb:b<999999)(hc:c<999999)
  (h:aw a7 f args sin (.gj fs) ((a,.pure p)::(b,.pure q)::(c,.pure r)::s)) (EP:∀y off len sz,FE.row y off len sz∈fs→y=a∨y=b∨y=c) :
  aw a7 f args sin (.gj fs) [(a,.pure p),(b,.pure q),(c,.pure r)]:=by
 refine h.sub (fun x sc hx => ?_) (fun y off len sz hy => ?_)
 ·rw[aN.bW ha,aN.bW hb,aN.bW hc,aN.get_nil] at hx
  rw[aN.bW ha,aN.bW hb,aN.bW hc]
  cases h1:Nat.beq a x with
  |true=>rw[h1,cond_true] at hx;rw[cond_true];injection hx with hx;subst hx;exact⟨rfl,rfl⟩
  |false =>
   rw[h1,cond_false] at hx;rw[cond_false]
   cases h2:Nat.beq b x with
   |true=>rw[h2,cond_true] at hx;rw[cond_true];injection hx with hx;subst hx;exact⟨rfl,rfl⟩
   |false =>
    rw[h2,cond_false] at hx;rw[cond_false]
    cases h3:Nat.beq c x with
    |true=>rw[h3,cond_true] at hx;rw[cond_true];injection hx with hx;subst hx;exact⟨rfl,rfl⟩
    |false=>rw[h3,cond_false] at hx;cases hx
 ·unfold bk
  rw[aN.bW ha,aN.bW hb,aN.bW hc]
  rcases EP y off len sz hy with rfl|rfl|rfl
  ·rw[Nat.beq_refl];rfl
  ·cases h1:Nat.beq a y<;>simp
  ·cases h1:Nat.beq a y<;>cases h2:Nat.beq b y<;>simp
theorem FC{x:aW}(hf:gC x)(hv:x.valid=true):Cp 38 [x.pv,(⟨false,[],[]⟩:aW).pv] x.pv:=by
 have h:=BL.Add x ⟨false,[],[]⟩ hf.r (by unfold ot;simp)
 have e:(⟨false,[],[]⟩:aW).val=0:=rfl
 rw[e,Rat.add_zero,vJ hv] at h
 exact h
namespace pA
theorem copied{l:aj}(hl:Ok l)(hf:iM l):aw a7 36 [.pv l.pv] [] (.gj [.pv (.str l.name),.row 56 0 l.aa.length 2,.row 13 0 l.an.length 7,.row 16 0 l.ak.length 2]) [(56,(.pure ((l.aa:List ab).map ab.cells).flatten)),(13,(.pure ((l.an:List ag).map ag.cells).flatten)),(16,(.pure ((l.ak:List af).map af.cells).flatten))]:=by
 refine O3 (s:=[(2,(.lit [(.pv (.str l.name)),(.row 56 0 l.aa.length 2),(.row 13 0 l.an.length 7),(.row 16 0 l.ak.length 2)]))]) (by omega) (by omega) (by omega) ?_ (fun y off len sz h=>by simpa using(show y=56∨y=13∨y=16 by simp at h;omega))
 refine fF.e0 l l.an l.ak (M4 _ (by have:=hl.jl;omega)) (M5 _ (by have:=hl.dl;omega)) ?_
 have key:∀(m b:Nat),b+m=l.aa.length→fF.ar l b (l.aa.take b) l.an l.ak [] (.gj [.pv (.str l.name),.row 56 0 l.aa.length 2,.row 13 0 l.an.length 7,.row 16 0 l.ak.length 2]) [(56,(.pure ((l.aa:List ab).map ab.cells).flatten)),(13,(.pure ((l.an:List ag).map ag.cells).flatten)),(16,(.pure ((l.ak:List af).map af.cells).flatten)),(2,(.lit [(.pv (.str l.name)),(.row 56 0 l.aa.length 2),(.row 13 0 l.an.length 7),(.row 16 0 l.ak.length 2)]))]:=by
  intro m
  induction m with
  |zero =>
   intro b hb
   have e:l.aa.take b=l.aa:=List.take_of_length_le (by omega)
   rw[e]
   exact fF.dD l b l.aa l.an l.ak rfl rfl (by omega)
  |succ m ih =>
   intro b hb
   have hv:=List.getElem?_eq_getElem (l:=l.aa) (i:=b) (by omega)
   generalize l.aa[b]=v at hv
   have sr:=hl.aa v (List.mem_of_getElem? hv)
   have PJ:=hf.aa v (List.mem_of_getElem? hv)
   have h8:=sr.2.len
   have VN:=hl.len
   refine fF.dC l b _ _ _ v rfl (by omega) hv ?_
   have RZ:∀(m c:Nat),c+m=v.points.length→fF.aJ l b v c (l.aa.take b) l.an l.ak (v.points.take c) [] (.gj [.pv (.str l.name),.row 56 0 l.aa.length 2,.row 13 0 l.an.length 7,.row 16 0 l.ak.length 2]) [(56,(.pure ((l.aa:List ab).map ab.cells).flatten)),(13,(.pure ((l.an:List ag).map ag.cells).flatten)),(16,(.pure ((l.ak:List af).map af.cells).flatten)),(2,(.lit [(.pv (.str l.name)),(.row 56 0 l.aa.length 2),(.row 13 0 l.an.length 7),(.row 16 0 l.ak.length 2)]))]:=by
    intro m
    induction m with
    |zero =>
     intro c hc
     have e:v.points.take c=v.points:=List.take_of_length_le (by omega)
     rw[e]
     have h:=ih (b+1) (by omega)
     rw[ep hv] at h
     exact fF.nL l b v c _ _ _ v.points rfl (by omega) (by rw[List.length_append,List.length_take,List.length_singleton];omega) (by omega) h
    |succ m Hv =>
     intro c hc
     have hp:=List.getElem?_eq_getElem (l:=v.points) (i:=c) (by omega)
     generalize v.points[c]=p at hp
     have S9:=sr.2.all p (List.mem_of_getElem? hp)
     have O4:=PJ.2 p (List.mem_of_getElem? hp)
     have h:=Hv (c+1) (by omega)
     rw[ep hp] at h
     exact fF.nK l b v c _ _ _ _ p p.x p.y rfl (by omega) hp (FC O4.2.1 S9.2.1) (FC O4.2.2 S9.2.2) (by rw[List.length_append,List.length_take,List.length_singleton];omega) (by omega) h
   exact RZ v.points.length 0 (by omega)
 exact key l.aa.length 0 (by omega)
end pA
abbrev zj(b:ab):List Int:=rV (b.points.map au.name) 0
abbrev EI(l:aj):List (List Int):=l.aa.map zj
abbrev TO(l:aj):List Int:=rV (l.aa.map ab.name) 1
theorem fZ{b:ab}{k:Nat}{p:au}(h:b.points[k]? = some p):(zj b)[k]? = some (o9 b (k:Int)):=by
 unfold zj rV o9
 rw[ke,h,show castL (List.range 0)=[] from rfl,List.nil_append,List.drop_zero,List.getElem?_map,List.getElem?_map,h]
 show some (((0+rk id (b.points.map au.name) p.name:Nat)):Int)=_
 rw[Nat.zero_add,tH (key:=au.name) (key':=id) au.name (fun _=>rfl)]
theorem rW{l:aj}{k:Nat}{b:ab}(h:l.aa[k]? = some b):(EI l)[k]? = some (zj b):=by
 unfold EI;rw[List.getElem?_map,h];rfl
theorem lW{l:aj}{k:Nat}{b:ab}(h:l.aa[k]? = some b):(TO l)[k]? = some (gO l (k:Int)):=by
 unfold TO rV gO
 cases k with
 |zero =>
  rw[List.getElem?_append_left (by rw[fH,List.length_range];omega)];rfl
 |succ k =>
  rw[List.getElem?_append_right (by rw[fH,List.length_range];omega),fH,List.length_range,List.getElem?_map,List.getElem?_drop,List.getElem?_map,show 1+(k+1-1)=k+1 by omega,h,if_neg (by omega),ke,h]
  show some (((1+rk id ((l.aa.map ab.name).drop 1) b.name:Nat)):Int)=some (1+(rk ab.name (l.aa.drop 1) b.name:Int))
  rw[←List.map_drop,tH (key:=ab.name) (key':=id) ab.name (fun _=>rfl),Int.natCast_add];rfl
theorem wv{α:Type}{f:α→ByteArray}{xs:List α}(hn:(xs.map f).Nodup){i i':Nat}{x y:α}(h1:xs[i]? = some x)(h2:xs[i']? = some y)(h:rk f xs (f x)=rk f xs (f y)):i=i':=by
 have e:=Il hn (List.mem_of_getElem? h1) (List.mem_of_getElem? h2) h
 exact sq hn h1 h2 (by rw[e])
theorem De{bs out:List ab}{nm js ds}(hn:(bs.map ab.name).Nodup)(hl:out.length=bs.length)(h:∀(i:Nat) b,bs[i]? = some b→∀k:Nat,gO ⟨nm,bs,js,ds⟩ (i:Int)=(k:Int)→out[k]? = some (nb b)):out=eJ bs:=by
 cases bs with
 |nil=>exact List.length_eq_zero_iff.1 hl
 |cons f t =>
  obtain⟨x,o,rfl⟩:=List.exists_cons_of_ne_nil (l:=out) (fun e=>by rw[e] at hl;simp at hl)
  have h0:=h 0 f rfl 0 rfl
  have h0:some x=some (nb f):=h0
  injection h0 with h0
  subst h0
  show nb f::o=nb f::b8 ab.name (t.map nb)
  congr 1
  have zp:((t.map nb).map ab.name).Nodup:=by rw[kF];exact(List.nodup_cons.1 hn).2
  refine rR zp (by rw[List.length_map];simpa using hl) (fun i y hy => ?_)
  rw[List.getElem?_map] at hy
  cases hb:t[i]? with
  |none=>rw[hb] at hy;cases hy
  |some b =>
   rw[hb] at hy
   injection hy with hy;subst hy
   have:=h (i+1) b hb (1+rk ab.name t b.name) (by
    unfold gO
    rw[if_neg (by omega)]
    show(match nth (f::t) ((i+1:Nat):Int) with|some b=>1+(rk ab.name t b.name:Int)|none=>0)=_
    rw[ke,show(f::t)[i+1]? = some b from hb]
    show 1+(rk ab.name t b.name:Int)=_
    omega)
   rw[tH nb xm]
   rw[show 1+rk ab.name t b.name=rk ab.name t b.name+1 by omega] at this
   exact this
end Go.Proofs.YtfjfekodeplcoaaGreat.Sym
