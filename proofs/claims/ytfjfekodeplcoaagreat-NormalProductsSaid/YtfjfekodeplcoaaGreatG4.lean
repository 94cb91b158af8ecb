/- Lemmas for the statements of this seat. -/
import Derived.Test.YtfjfekodeplcoaaGreatG3
import Derived.Shelf.SlSortCmp.WholeK
import Derived.KernelRfl
import Derived.Shelf.Lays
import Derived.Shelf.SlLaysE0
import Derived.Shelf.SlLaysF0
import Derived.Test.YtfjfekodeplcoaaGreatChecked
import Derived.Test.YtfjfekodeplcoaaGreatG2
import Derived.Test.YtfjfekodeplcoaaGreatP4
import Derived.Shelf.Small.Strs
namespace Go.Proofs.YtfjfekodeplcoaaGreat.Sym
open Go Go.RowKit Go.Shelf
set_option linter.unusedVariables false
theorem mj.enters {P : Program} {f : FuncId} (hc : mj P f) : ∀ args w, (callFunc f args).run P w = .ok (.enter f args) w := by
  obtain ⟨fn, h1, h2, h3⟩ := hc
  intro args w
  have hb : fn.body ≠ none := by intro e; rw [e] at h2; cases h2
  have GJ : fn.name ≠ "runtime.NumGoroutine" := by simpa using h3
  simp [callFunc, h1, GJ, hb]
theorem Ah{α:Type}{xs:List α}{i:Nat}{d:α}(h:i<xs.length):xs[i]? = some (xs.getD i d):=by
 rw[List.getD_eq_getElem?_getD,List.getElem?_eq_getElem h,Option.getD_some]
section
variable {P:Program} {ρ:Ren} {k off cap b:Nat} {I1:Nat→Prop} {w:World} {arr:Array Value} {el:TypeId} {xs:List (List PV)} {c:List PV→List PV→Int}
theorem Ai(kK:∀(i j:Nat) row x,xs[i]? = some row→row[j]? = some x→∃u,arr[off+(i*k+j)]? = some u∧u.oneCell'=true∧Rd I1 w x u)
  (hlen:∀row∈xs,row.length=k) (h0:0<xs.length) (x:Nat):(∀v∈s8 arr off k xs.length x,v.oneCell'=true)∧Rd I1 w (.agg (xs.getD (HB xs.length x) [])) (.agg (s8 arr off k xs.length x).toArray):=by
 have hc:=qQ (x:=x) h0
 have hr:=Ah (d:=[]) hc
 have hl:=hlen _ (List.mem_of_getElem? hr)
 have key:∀j,j<k→∃p u,(xs.getD (HB xs.length x) [])[j]? = some p∧(s8 arr off k xs.length x)[j]? = some u∧u.oneCell'=true∧Rd I1 w p u:=fun j hj=>by
  have hp:(xs.getD (HB xs.length x) [])[j]? = some ((xs.getD (HB xs.length x) [])[j]'(by rw[hl];exact hj)):=List.getElem?_eq_getElem _
  obtain⟨u,h1,h2,h3⟩:=kK _ j _ _ hr hp
  refine⟨_,u,hp,?_,h2,h3⟩
  rw[Ad hj,Array.getD_eq_getD_getElem?,h1];rfl
 refine⟨fun v hv => ?_,?_⟩
 ·obtain⟨j,hj,hv⟩:=List.getElem_of_mem hv
  rw[vr] at hj
  obtain⟨p,u,_,h2,h3,_⟩:=key j hj
  rw[List.getElem?_eq_getElem (by rw[vr];exact hj)] at h2
  injection h2 with h2
  rw[←hv,h2];exact h3
 ·refine .agg _ _ (by rw[hl];simp[vr]) (fun j q hq => ?_) (fun j q u hq hu => ?_)
  ·have hj:j<k:=by rw[←hl];exact(List.getElem?_eq_some_iff.1 hq).1
   obtain⟨p,u,h1,h2,h3,h4⟩:=key j hj
   rw[hq] at h1;injection h1 with h1;subst h1
   exact PV.gO h4 h3
  ·have hj:j<k:=by rw[←hl];exact(List.getElem?_eq_some_iff.1 hq).1
   obtain⟨p,u',h1,h2,h3,h4⟩:=key j hj
   rw[hq] at h1;injection h1 with h1;subst h1
   rw[List.getElem?_toArray,h2] at hu
   injection hu with hu;subst hu
   exact h4
theorem Aj{enc:Nat→List Value}{m:Nat}{d:Array Nat}{os:Array Obj}{x:Nat}(hx:x<w.heap.size)(hb:x≠b)(o:Nat) :
  (sortWorldK enc k w b off m d os).cell? ⟨x,o,none⟩=w.cell? ⟨x,o,none⟩ :=
 dM (by rw[Af _ _ _ _ _ _ _ _ _ hx,if_neg (fun h=>hb h.symm)]) o
theorem Hl(hS:Ou)(L:SlLaysF0.n6 P ρ)(aE:∀w,(isAgg (ρ.t 24)).run P w = .ok true w)(zE:∀w,(Go.sizeOf (ρ.t 24)).run P w = .ok k w)
  (hb:w.heap[b]? = some (.cells arr el (0,0))) (hI:∀x,I1 x→x<w.heap.size∧x≠b)
  (kK:∀(i j:Nat) row x,xs[i]? = some row→row[j]? = some x→∃u,arr[off+(i*k+j)]? = some u∧u.oneCell'=true∧Rd I1 w x u)
  (hlen:∀row∈xs,row.length=k) (h0:0<xs.length) (Kx:0<k) (jC:xs.length<4611686018427387904) (hO:JD c xs)
  {g:FuncId} {ex:List EV} {cb:Array Value} (hex:ex.length=cb.size) (Wv:∀(j:Nat) e v,ex[j]? = some e→cb[j]? = some v→RE (fun _=>none) (aS []) I1 w e v)
  (wC:∀a∈xs,∀b∈xs,av P g (.pv (.agg a) :: .pv (.agg b)::ex) [] (.pv (.int .i64 (c a b))) []) :
  Calls P (ρ.f 6) #[.slice (some ⟨b,off,none⟩) xs.length cap,.func (.func g) #[] cb] w fun e w' =>
   e = .returned (.tuple #[])∧∃m os,w'=sortWorldK (s8 arr off k xs.length) k w b off m (fV c xs) os:=by
 have wq:∀x,xs.getD (HB xs.length x) []∈xs:=fun x=>mI (qQ h0)
 have rb:∀x,¬aS [] x:=fun x h=>ez h
 have Td:b<w.heap.size:=(Array.getElem?_eq_some_iff.1 hb).1
 have eg:=(wC _ (wq 0) _ (wq 0)).1.enters
 have hH:Sort.HoldsK (s8 arr off k xs.length) k w b off (Array.range xs.length):=by
  intro j hj
  rw[Sort.size_flatK,Array.size_range] at hj
  have hq:j/k<xs.length:=Nat.div_lt_of_lt_mul (by rwa[Nat.mul_comm])
  have hm:j%k<k:=Nat.mod_lt _ Kx
  have hr:=Ah (d:=[]) hq
  have hp:(xs.getD (j/k) [])[j%k]? = some ((xs.getD (j/k) [])[j%k]'(by rw[hlen _ (List.mem_of_getElem? hr)];exact hm)):=List.getElem?_eq_getElem _
  obtain⟨u,h1,h2,h3⟩:=kK _ _ _ _ hr hp
  have Ww:j/k*k+j%k=j:=by rw[Nat.mul_comm];exact Nat.div_add_mod _ _
  refine⟨?_,by simp[World.frozen?,hb]⟩
  rw[Sort.get_flatK _ _ _ _ (by simpa using hj)]
  have e1:(Array.range xs.length)[j/k]! = j/k:=by
   rw[getElem!_pos _ _ (by simpa using hq)];simp
  rw[e1]
  have e2:=Ad (arr:=arr) (off:=off) (n:=xs.length) (x:=j/k) hm
  rw[Cz hq,Array.getD_eq_getD_getElem?,h1] at e2
  rw[List.getElem!_eq_getElem?_getD,e2]
  rw[Ww] at h1
  show w.cell? ⟨b,off+j,none⟩=some u
  simp[World.cell?,hb,h1]
 have hC:CmpLays P g cb (s8 arr off k xs.length) k (Hi c xs) b off (Array.range xs.length).size w:=by
  intro m os dk Kb x y
  have hc:=wC _ (wq x) _ (wq y)
  have zR:∀(q o:Nat),I1 q→(sortWorldK (s8 arr off k xs.length) k w b off m dk os).cell? ⟨q,o,none⟩=w.cell? ⟨q,o,none⟩:=fun q o hq=>Aj (hI q hq).1 (hI q hq).2 o
  have rx:=(Ai kK hlen h0 x).2.mono (fun _ h=>h) zR
  have ry:=(Ai kK hlen h0 y).2.mono (fun _ h=>h) zR
  refine(hc.2 I1 _ (fun _=>none) _ (fun q hq => ?_) (jF _ _ _) (by simp[hex];omega) (fun j e v he hv => ?_) ra.Mz).mono fun e w' hp => ?_
  ·rw[um];exact Nat.lt_of_lt_of_le (hI q hq).1 (Nat.le_add_right _ _)
  ·cases j with
   |zero =>
    rw[Array.getElem?_append_left (by simp)] at hv
    injection he with he;subst he
    simp at hv;subst hv;exact rx
   |succ j =>
    cases j with
    |zero =>
     rw[Array.getElem?_append_left (by simp)] at hv
     injection he with he;subst he
     simp at hv;subst hv;exact ry
    |succ j =>
     have fj:ex[j]? = some e:=by simpa using he
     have A4:cb[j]? = some v:=by
      rw[Array.getElem?_append_right (by simp)] at hv
      simpa using hv
     exact(Wv j e v fj A4).mono (fun r h=>absurd h (rb r)) (fun _ h=>h) (fun _ h=>h) zR (fun r _ h=>absurd h (rb r))
  ·obtain⟨v,β',rfl,_,hk,_,wR,_⟩:=hp
   have wR:Rd _ _ (.int .i64 (Hi c xs x y)) v:=wR
   refine⟨congrArg _ (qk wR),?_⟩
   exact ur.grow hS ⟨⟨hk.os,hk.tape,hk.output,hk.size,fun q hq=>hk.block q hq (fun ⟨x,hx,_⟩=>rb x hx)⟩,hk.drawn⟩
 have zc:=AnyQ.slices_SortFunc_eq L k aE zE (s8 arr off k xs.length) (vr arr off k xs.length) (fun x=>(Ai kK hlen h0 x).1) (Hi c xs) (hO.JE h0) g cb b off cap (Array.range xs.length) w eg hC hH Td (by simpa using jC)
 rw[Array.size_range] at zc
 exact zc
end
theorem DY{k:Nat} : ∀{ys:List (List PV)} {t:Nat} {e:PV},(∀row∈ys,row.length=k)→ys.flatten[t]? = some e→∃row,ys[t/k]? = some row∧row[t%k]? = some e∧t<ys.length*k
 |[],t,e,_,h=>by simp at h
 |r::ys,t,e,hl,h=>by
  have hr:r.length=k:=hl r (by simp)
  rw[List.flatten_cons] at h
  by_cases ht:t<k
  ·rw[List.getElem?_append_left (by omega)] at h
   refine⟨r,by rw[Nat.div_eq_of_lt ht];rfl,by rw[Nat.mod_eq_of_lt ht];exact h,?_⟩
   rw[List.length_cons,Nat.succ_mul];omega
  ·rw[List.getElem?_append_right (by omega),hr] at h
   obtain⟨row,h1,h2,h3⟩:=DY (fun row hr=>hl row (by simp[hr])) h
   have hk:0<k:=by
    rcases Nat.eq_zero_or_pos k with h0|h0
    ·subst h0;simp at h3
    ·exact h0
   obtain⟨s,rfl⟩:∃s,t=s+k:=⟨t-k,by omega⟩
   rw[Nat.add_sub_cancel] at h1 h2 h3
   refine⟨row,by rw[Nat.add_div_right _ hk];exact h1,by rw[Nat.add_mod_right];exact h2,?_⟩
   rw[List.length_cons,Nat.succ_mul];omega
theorem Ak{c:List PV→List PV→Int}{xs:List (List PV)}{k:Nat}(hO:JD c xs)(h0:0<xs.length)(hl:∀row∈xs,row.length=k):∀row∈lF c xs,row.length=k :=
 fun row hr=>hl row ((xl hO h0).mem_iff.1 hr)
section
variable {P:Program} {ρ:Ren} {k n:Nat} {xs:List (List PV)} {c:List PV→List PV→Int}
theorem Ln(hS:Ou)(L:SlLaysF0.n6 P ρ)(hf:mj P (ρ.f 6))(aE:∀w,(isAgg (ρ.t 24)).run P w = .ok true w)(zE:∀w,(Go.sizeOf (ρ.t 24)).run P w = .ok k w)
  (pre post:List PV) (y:Nat) (hy:y<999999) (hlen:∀row∈xs,row.length=k) (hn:xs.length=n) (h0:0<n) (Kx:0<k) (jC:n<4611686018427387904) (hO:JD c xs) {g:FuncId}
  (wC:∀a∈xs,∀b∈xs,fG P g [.agg a,.agg b] (.int .i64 (c a b))) :
  av P (ρ.f 6) [.row y pre.length n k,.pv (.fn g)] [(y,.pure (pre++xs.flatten++post))] (.pv (.bx [])) [(y,.pure (pre++(lF c xs).flatten++post))]:=by
 subst hn
 refine⟨hf,fun I w β vs hI AD hl wR _ => ?_⟩
 have Hv:aS [(y,SC.pure (pre++xs.flatten++post))] y:=by unfold aS;rw[aG.bY hy,Nat.beq_refl];rfl
 have KD:∀{sc:SC} q,aS [(y,sc)] q→q=y:=fun q h=>by
  unfold aS at h
  rw[aG.bY hy,aG.get_nil] at h
  cases hb:Nat.beq y q with
  |true=>exact(Nat.eq_of_beq_eq_true hb).symm
  |false=>simp[hb] at h
 obtain⟨v,u,rfl⟩:∃v u,vs = #[v,u]:=by
  match vs,hl with
  |⟨[v,u]⟩,_=>exact⟨v,u,rfl⟩
 have hu:Rd I w (.fn g) u:=wR 1 _ u rfl rfl
 have hu:u = .func (.func g) #[] #[]:=by cases hu;rfl
 subst hu
 have hv:=wR 0 _ v rfl rfl
 obtain⟨xz,Wx⟩:=AD.1 y (.pure (pre++xs.flatten++post)) (by rw[aG.bY hy,Nat.beq_refl];rfl)
 have xz:RB β (aS [(y,SC.pure (pre++xs.flatten++post))]) I w y ((pre++xs.flatten++post).map EV.pv):=xz
 obtain⟨_,⟨_,Xp,_⟩|⟨b,cap,hb,rfl,OV,_⟩⟩:=hv
 ·omega
 obtain⟨arr,el,hg,pG,ot⟩:=qo xz hb
 obtain⟨Td,Te⟩:=Wx b hb
 have kK:∀(i j:Nat) row x,xs[i]? = some row→row[j]? = some x→∃u,arr[pre.length+(i*k+j)]? = some u∧u.oneCell'=true∧Rd I w x u:=fun i j row x hi hj=>by
  refine ot _ x ?_
  have h1:=nJ hlen hi hj
  rw[List.append_assoc,List.getElem?_append_right (Nat.le_add_right _ _),Nat.add_sub_cancel_left,List.getElem?_append_left (List.getElem?_eq_some_iff.1 h1).1]
  exact h1
 refine(Hl hS L aE zE hg (fun x hx=>⟨hI x hx,fun e=>Te (by rw[←e];exact hx)⟩) kK hlen h0 Kx jC hO (g:=g) (ex:=[]) (cb := #[]) rfl (fun j e v he=>by simp at he) wC).mono fun e w' hp => ?_
 obtain⟨rfl,m,os,rfl⟩:=hp
 have ti:=fun (x:Nat) (hx:x<w.heap.size)=>Af (s8 arr pre.length k xs.length) k w b pre.length m (fV c xs) os x hx
 have Tf:=ti b Td
 rw[if_pos rfl,hg] at Tf
 have JI:∀x,x<w.heap.size→x≠b→(sortWorldK (s8 arr pre.length k xs.length) k w b pre.length m (fV c xs) os).heap[x]? = w.heap[x]? := fun x hx iO=>by
  rw[ti x hx,if_neg (fun e=>iO e.symm)]
 have Uy:=xk hO h0
 have FO:=pK (ys:=lF c xs) (Ak hO h0 hlen)
 have Tg:=pK hlen
 have K0:(lF c xs).length=xs.length:=(xl hO h0).length_eq
 rw[K0] at FO
 refine⟨.tuple #[],β,rfl,fun _ _ _=>rfl,⟨rfl,rfl,rfl,by rw[um];exact Nat.le_add_right _ _,fun x hx hM=>JI x hx (fun e=>hM ⟨y,Hv,e ▸ hb⟩),fun x hx => ?_,fun _=>Nat.le_add_right _ _⟩,⟨fun r sc hr => ?_,fun r r' _ h1 h2 _ _=>(KD r h1).trans (KD r' h2).symm⟩,.bx _ _ rfl (fun j c u hc=>by simp at hc),fun x q hx EL=>absurd (by rw[KD x hx];exact Hv) EL⟩
 ·by_cases GU:x=b
  ·subst GU
   simp only[World.shape?,Tf,hg,Option.map_some,Sort.onCells]
   simp[Sort.putCells]
  ·exact gU (JI x hx GU)
 ·have Wy:r=y:=KD r (by unfold aS;rw[hr];rfl)
  subst Wy
  rw[aG.bY hy,Nat.beq_refl,cond_true] at hr
  injection hr with hr;subst hr
  refine⟨.inr ⟨b,_,el,hb,Tf,fun q e he => ?_⟩,fun b' cI => ?_⟩
  ·have uI:∀{p:PV} {u:Value},Rd I w p u→RE β (aS [(r,SC.pure (pre++(lF c xs).flatten++post))]) (fun L6=>I L6∨(fresh w (sortWorldK (s8 arr pre.length k xs.length) k w b pre.length m (fV c xs) os) L6∨xy [(r,SC.pure (pre++xs.flatten++post))] β L6)∧∀x,aS [(r,SC.pure (pre++(lF c xs).flatten++post))] x→β x≠some L6) (sortWorldK (s8 arr pre.length k xs.length) k w b pre.length m (fV c xs) os) (.pv p) u :=
    fun h=>Rd.mono h (fun _ h => .inl h) (fun x o hx=>Aj (hI x hx) (fun e=>Te (by rw[←e];exact hx)) o)
   unfold SC.jc at he
   rw[List.getElem?_map] at he
   cases hp:(pre++(lF c xs).flatten++post)[q]? with
   |none=>rw[hp] at he;cases he
   |some p =>
    rw[hp] at he
    injection he with he;subst he
    unfold Sort.putCells
    rw[Array.getElem?_mapIdx,Sort.size_flatK,Uy]
    by_cases h1:q<pre.length
    ·rw[List.append_assoc,List.getElem?_append_left h1] at hp
     obtain⟨u,g1,g2,g3⟩:=ot q p (by rw[List.append_assoc,List.getElem?_append_left h1];exact hp)
     refine⟨u,?_,g2,uI g3⟩
     rw[g1,Option.map_some,if_neg (by omega)]
    ·by_cases h2:q<pre.length+xs.length*k
     ·obtain⟨t,rfl⟩:∃t,q=pre.length+t:=⟨q-pre.length,by omega⟩
      rw[List.append_assoc,List.getElem?_append_right (by omega),Nat.add_sub_cancel_left,List.getElem?_append_left (by omega)] at hp
      obtain⟨row,r1,r2,r3⟩:=DY (Ak hO h0 hlen) hp
      unfold lF at r1
      rw[List.getElem?_map] at r1
      cases hz:(fV c xs).toList[t/k]? with
      |none=>rw[hz] at r1;cases r1
      |some z =>
       rw[hz] at r1
       injection r1 with r1
       have Th:z<xs.length:=sN hO h0 (List.mem_of_getElem? hz)
       have Uz:=Ah (d:=[]) Th
       have r1:xs.getD z []=row:=r1
       rw[r1] at Uz
       obtain⟨u,g1,g2,g3⟩:=kK _ _ _ _ Uz r2
       refine⟨u,?_,g2,uI g3⟩
       have PW:pre.length+t<arr.size:=by
        have:(pre++xs.flatten++post).length≤arr.size:=pG
        simp only[List.length_append,Tg] at this
        omega
       rw[Array.getElem?_eq_getElem PW,Option.map_some,if_pos ⟨by omega,by omega⟩,Nat.add_sub_cancel_left]
       rw[Sort.get_flatK _ _ _ _ (by rw[Uy];omega)]
       have e1:(fV c xs)[t/k]! = z:=by
        have:(fV c xs)[t/k]? = some z:=by simpa using hz
        rw[getElem!_def,this]
       rw[e1]
       have e2:=Ad (arr:=arr) (off:=pre.length) (n:=xs.length) (x:=z) (Nat.mod_lt t Kx)
       rw[Cz Th,Array.getD_eq_getD_getElem?,g1] at e2
       rw[List.getElem!_eq_getElem?_getD,e2]
       rfl
     ·obtain⟨u,g1,g2,g3⟩:=ot q p (by
       rw[List.getElem?_append_right (by rw[List.length_append,Tg];omega),List.length_append,Tg]
       rw[List.getElem?_append_right (by rw[List.length_append,FO];omega),List.length_append,FO] at hp
       exact hp)
      refine⟨u,?_,g2,uI g3⟩
      rw[g1,Option.map_some,if_neg (by omega)]
  ·rw[hb] at cI;injection cI with cI;subst cI
   refine⟨by rw[um];omega,fun h => ?_⟩
   rcases h with h|⟨_,h⟩
   ·exact Te h
   ·exact h r (by unfold aS;rw[aG.bY hy,Nat.beq_refl];rfl) hb
end
end Go.Proofs.YtfjfekodeplcoaaGreat.Sym
namespace Go.Proofs.YtfjfekodeplcoaaGreat.Sym.Lay
open Go Go.Shelf Go.Proofs
set_option maxRecDepth 20000
def tz:Ren:=⟨fun n=>match n with|6=>106|14=>141|15=>142|20=>157|21=>158|22=>159|23=>160|24=>161|25=>162|26=>163|27=>164|28=>165|29=>166|46=>185|47=>186|48=>187|49=>188|50=>189|57=>196|n=>n,
 fun n=>match n with|0=>0|3=>3|4=>4|5=>5|9=>9|22=>23|24=>65|25=>128|39=>137|45=>158|46=>159|50=>163|53=>115|55=>136|66=>177|70=>181|76=>187|77=>96|n=>n,
 fun n=>n⟩
theorem Hm : SlLaysF0.n6 Tryz.prog tz where
  mixed := by kernel_rfl
  f6 := ⟨ "slices.SortFunc[[]linkwork/api.Joint,linkwork/api.Joint]", by decide, Tryz.func106.trans (congrArg some (by kernel_rfl))⟩
  f14 := ⟨ "slices.pdqsortCmpFunc[linkwork/api.Joint]", by decide, Tryz.func141.trans (congrArg some (by kernel_rfl))⟩
  f15 := Tryz.func142.trans (congrArg some (by kernel_rfl))
  f20 := ⟨ "slices.insertionSortCmpFunc[linkwork/api.Joint]", by decide, Tryz.func157.trans (congrArg some (by kernel_rfl))⟩
  f21 := ⟨ "slices.heapSortCmpFunc[linkwork/api.Joint]", by decide, Tryz.func158.trans (congrArg some (by kernel_rfl))⟩
  f22 := ⟨ "slices.breakPatternsCmpFunc[linkwork/api.Joint]", by decide, Tryz.func159.trans (congrArg some (by kernel_rfl))⟩
  f23 := ⟨ "slices.choosePivotCmpFunc[linkwork/api.Joint]", by decide, Tryz.func160.trans (congrArg some (by kernel_rfl))⟩
  f24 := ⟨ "slices.reverseRangeCmpFunc[linkwork/api.Joint]", by decide, Tryz.func161.trans (congrArg some (by kernel_rfl))⟩
  f25 := ⟨ "slices.partialInsertionSortCmpFunc[linkwork/api.Joint]", by decide, Tryz.func162.trans (congrArg some (by kernel_rfl))⟩
  f26 := ⟨ "slices.partitionEqualCmpFunc[linkwork/api.Joint]", by decide, Tryz.func163.trans (congrArg some (by kernel_rfl))⟩
  f27 := ⟨ "slices.partitionCmpFunc[linkwork/api.Joint]", by decide, Tryz.func164.trans (congrArg some (by kernel_rfl))⟩
  f28 := Tryz.func165.trans (congrArg some (by kernel_rfl))
  f29 := Tryz.func166.trans (congrArg some (by kernel_rfl))
  f46 := ⟨ "slices.siftDownCmpFunc[linkwork/api.Joint]", by decide, Tryz.func185.trans (congrArg some (by kernel_rfl))⟩
  f47 := Tryz.func186.trans (congrArg some (by kernel_rfl))
  f48 := Tryz.func187.trans (congrArg some (by kernel_rfl))
  f49 := ⟨ "slices.medianAdjacentCmpFunc[linkwork/api.Joint]", by decide, Tryz.func188.trans (congrArg some (by kernel_rfl))⟩
  f50 := ⟨ "slices.medianCmpFunc[linkwork/api.Joint]", by decide, Tryz.func189.trans (congrArg some (by kernel_rfl))⟩
  f57 := ⟨ "slices.order2CmpFunc[linkwork/api.Joint]", by decide, Tryz.func196.trans (congrArg some (by kernel_rfl))⟩
  t0 := Tryz.underlying0
  a0 := Tryz.isAgg0
  z0 := Tryz.sizeOf0
  v0 := Tryz.zeroValue0
  t3 := Tryz.underlying3
  a3 := Tryz.isAgg3
  z3 := Tryz.sizeOf3
  v3 := Tryz.zeroValue3
  t4 := Tryz.underlying4
  a4 := Tryz.isAgg4
  z4 := Tryz.sizeOf4
  v4 := Tryz.zeroValue4
  t5 := Tryz.underlying5
  a5 := Tryz.isAgg5
  z5 := Tryz.sizeOf5
  v5 := Tryz.zeroValue5
  t9 := Tryz.underlying9
  a9 := Tryz.isAgg9
  z9 := Tryz.sizeOf9
  v9 := Tryz.zeroValue9
  t22 := Tryz.underlying23
  a22 := Tryz.isAgg23
  z22 := Tryz.sizeOf23
  v22 := Tryz.zeroValue23
  t25 := Tryz.underlying128
  a25 := Tryz.isAgg128
  z25 := Tryz.sizeOf128
  v25 := Tryz.zeroValue128
  t39 := Tryz.underlying137
  a39 := Tryz.isAgg137
  z39 := Tryz.sizeOf137
  v39 := Tryz.zeroValue137
  t45 := Tryz.underlying158
  a45 := Tryz.isAgg158
  z45 := Tryz.sizeOf158
  v45 := Tryz.zeroValue158
  t46 := Tryz.underlying159
  a46 := Tryz.isAgg159
  z46 := Tryz.sizeOf159
  v46 := Tryz.zeroValue159
  t50 := Tryz.underlying163
  a50 := Tryz.isAgg163
  z50 := Tryz.sizeOf163
  v50 := Tryz.zeroValue163
  t53 := Tryz.underlying115
  a53 := Tryz.isAgg115
  z53 := Tryz.sizeOf115
  v53 := Tryz.zeroValue115
  t55 := Tryz.underlying136
  a55 := Tryz.isAgg136
  z55 := Tryz.sizeOf136
  v55 := Tryz.zeroValue136
  t66 := Tryz.underlying177
  a66 := Tryz.isAgg177
  z66 := Tryz.sizeOf177
  v66 := Tryz.zeroValue177
  t70 := Tryz.underlying181
  a70 := Tryz.isAgg181
  z70 := Tryz.sizeOf181
  v70 := Tryz.zeroValue181
  t76 := Tryz.underlying187
  a76 := Tryz.isAgg187
  z76 := Tryz.sizeOf187
  v76 := Tryz.zeroValue187
  t77 := Tryz.underlying96
  a77 := Tryz.isAgg96
  z77 := Tryz.sizeOf96
  v77 := Tryz.zeroValue96
def EZ:Ren:=⟨fun n=>match n with|106=>108|213=>143|265=>167|n=>n,
 fun n=>match n with|3=>3|9=>9|n=>n,
 fun n=>n⟩
theorem Lo:Lays.n106 Tryz.prog EZ where
 mixed:=by kernel_rfl
 f106:=Tryz.func108.trans (congrArg some (by kernel_rfl))
 f213:=Tryz.func143.trans (congrArg some (by kernel_rfl))
 f265:=Tryz.func167.trans (congrArg some (by kernel_rfl))
 t3:=Tryz.underlying3
 a3:=Tryz.isAgg3
 z3:=Tryz.sizeOf3
 v3:=Tryz.zeroValue3
 t9:=Tryz.underlying9
 a9:=Tryz.isAgg9
 z9:=Tryz.sizeOf9
 v9:=Tryz.zeroValue9
def DZ:Ren:=⟨fun n=>match n with|41=>80|n=>n,
 fun n=>match n with|4=>4|22=>23|23=>65|n=>n,
 fun n=>n⟩
theorem Ti : SlLaysE0.n41 Tryz.prog DZ where
  mixed := by kernel_rfl
  f41 := ⟨ "slices.Clone[[]linkwork/api.Joint,linkwork/api.Joint]", by decide, Tryz.func80.trans (congrArg some (by kernel_rfl))⟩
  t4 := Tryz.underlying4
  a4 := Tryz.isAgg4
  z4 := Tryz.sizeOf4
  v4 := Tryz.zeroValue4
  t22 := Tryz.underlying23
  a22 := Tryz.isAgg23
  z22 := Tryz.sizeOf23
  v22 := Tryz.zeroValue23
def D0:Ren:=⟨fun n=>match n with|41=>81|n=>n,
 fun n=>match n with|4=>4|22=>24|23=>67|n=>n,
 fun n=>n⟩
theorem Tj : SlLaysE0.n41 Tryz.prog D0 where
  mixed := by kernel_rfl
  f41 := ⟨ "slices.Clone[[]linkwork/api.Driver,linkwork/api.Driver]", by decide, Tryz.func81.trans (congrArg some (by kernel_rfl))⟩
  t4 := Tryz.underlying4
  a4 := Tryz.isAgg4
  z4 := Tryz.sizeOf4
  v4 := Tryz.zeroValue4
  t22 := Tryz.underlying24
  a22 := Tryz.isAgg24
  z22 := Tryz.sizeOf24
  v22 := Tryz.zeroValue24
end Go.Proofs.YtfjfekodeplcoaaGreat.Sym.Lay
namespace Go.Proofs.YtfjfekodeplcoaaGreat.Sym
open Go Path fB Go.RowKit
set_option linter.unusedVariables false
def xU(a b:ByteArray):Int:=if strLt a b=true then -1 else if a=b then 0 else 1
theorem qR{a b:ByteArray} : xU a b<0↔strLt a b=true:=by
 unfold xU
 by_cases h:strLt a b=true
 ·rw[if_pos h];simp[h]
 ·rw[if_neg h]
  have:¬(if a=b then (0:Int) else 1)<0:=by split<;>decide
  simp[h,this]
theorem Gu{a b:ByteArray}(h:strLt a b=false):0≤xU a b:=by
 have:¬xU a b<0:=fun e=>by rw[qR,h] at e;cases e
 omega
theorem Bu:∀(a b:List UInt8),(Op.bytesLess a b=true→Lib.compareBytes a b = -1)∧(a=b→Lib.compareBytes a b=0)∧(Op.bytesLess a b=false→a≠b→Lib.compareBytes a b=1)
 |[],[]=>by simp[Op.bytesLess,Lib.compareBytes]
 |[],b::y=>by simp[Op.bytesLess,Lib.compareBytes]
 |a::x,[]=>by simp[Op.bytesLess,Lib.compareBytes]
 |a::x,b::y=>by
  obtain⟨h1,h2,h3⟩:=Bu x y
  have e:Op.bytesLess (a::x) (b::y)=(decide (a<b)||(a==b&&Op.bytesLess x y)):=rfl
  have f:Lib.compareBytes (a::x) (b::y)=if a<b then -1 else if b<a then 1 else Lib.compareBytes x y:=rfl
  rw[e,f]
  by_cases lE:a<b
  ·have Qj:a≠b:=fun e=>by subst e;simp at lE
   simp[lE,Qj]
  ·by_cases Qj:b<a
   ·have iO:a≠b:=fun e=>by subst e;simp at Qj
    simp[lE,Qj,iO]
   ·have e:a=b:=UInt8.toNat.inj (by rw[UInt8.lt_iff_toNat_lt] at lE Qj;omega)
    subst e
    simp only[lE,decide_false,Bool.false_or,beq_self_eq_true,Bool.true_and,if_false,List.cons.injEq,true_and,ne_eq]
    exact⟨h1,h2,h3⟩
theorem Lp(a b:ByteArray):Lib.compareBytes a.data.toList b.data.toList=xU a b:=by
 obtain⟨h1,h2,h3⟩:=Bu a.data.toList b.data.toList
 have e:strLt a b=Op.bytesLess a.data.toList b.data.toList:=by unfold strLt;rw[ByteArray.toList_eq,ByteArray.toList_eq]
 unfold xU
 rw[e]
 by_cases h:Op.bytesLess a.data.toList b.data.toList=true
 ·rw[if_pos h];exact h1 h
 ·rw[if_neg h]
  by_cases lE:a=b
  ·rw[if_pos lE];exact h2 (by rw[lE])
  ·rw[if_neg lE];exact h3 (by simpa using h) (fun e=>lE (ByteArray.ext (Array.ext' e)))
theorem pe {P : Program} {f : FuncId} {fn : Func} (h : P.funcs[f]? = some fn) (hb : (fn.body.isSome && !(fn.name == "runtime.NumGoroutine")) = true) : mj P f := by
  rw [Bool.and_eq_true, Bool.not_eq_true'] at hb
  exact ⟨fn, h, hb.1, hb.2⟩
theorem Compare(a b:ByteArray):Cp 108 [.str a,.str b] (vI (xU a b)):=by
 refine⟨pe Tryz.func108 (by kernel_rfl),fun I w β vs hI AD hl wR _ => ?_⟩
 obtain⟨v,u,rfl⟩:∃v u,vs = #[v,u]:=by
  match vs,hl with
  |⟨[v,u]⟩,_=>exact⟨v,u,rfl⟩
 have hv:Rd I w (.str a) v:=wR 0 _ v rfl rfl
 have hu:Rd I w (.str b) u:=wR 1 _ u rfl rfl
 have hv:v = .string a:=by cases hv;rfl
 have hu:u = .string b:=by cases hu;rfl
 subst hv hu
 refine(Any.strings_Compare Lay.Lo a b w).mono ?_
 rintro e w' ⟨rfl,rfl⟩
 rw[Lp]
 exact⟨_,β,rfl,fun x hx=>absurd hx ez,gS.refl _ _,jF _ _ _,.int _ _,fun x b hx=>absurd hx ez⟩
theorem JJ(l:List ak)(hl:l.length*64≤140737488355328):av bp 80 [.pv (bG ak.cells l)] [] (.row 0 0 l.length 7) [(0,(.pure ((l:List ak).map ak.cells).flatten))]:=by
 have h:=JH (P:=bp) (ρ:=Lay.DZ) Lay.Ti (pe Tryz.func80 (by kernel_rfl)) ((bp.info? 65).get (by kernel_rfl))
  ((((bp.info? 65).get (by kernel_rfl)).zero).get (by kernel_rfl)) 7 64 (by kernel_rfl) (by kernel_rfl) (by kernel_rfl) (by kernel_rfl) (by kernel_rfl) (by omega) Tryz.sizeOf65
  (l.map ak.cells) (fun row hr=>by obtain⟨a,_,rfl⟩:=List.mem_map.1 hr;rfl) (by rw[List.length_map];exact hl) (by omega)
 rw[List.length_map] at h
 exact h
theorem JK(l:List ag)(hl:l.length*24≤140737488355328):av bp 81 [.pv (bG ag.cells l)] [] (.row 0 0 l.length 2) [(0,(.pure ((l:List ag).map ag.cells).flatten))]:=by
 have h:=JH (P:=bp) (ρ:=Lay.D0) Lay.Tj (pe Tryz.func81 (by kernel_rfl)) ((bp.info? 67).get (by kernel_rfl))
  ((((bp.info? 67).get (by kernel_rfl)).zero).get (by kernel_rfl)) 2 24 (by kernel_rfl) (by kernel_rfl) (by kernel_rfl) (by kernel_rfl) (by kernel_rfl) (by omega) Tryz.sizeOf67
  (l.map ag.cells) (fun row hr=>by obtain⟨a,_,rfl⟩:=List.mem_map.1 hr;rfl) (by rw[List.length_map];exact hl) (by omega)
 rw[List.length_map] at h
 exact h
theorem QY(m:Nat)(h:m<256):∃b,Cp 142 [vU m] (vI b) :=
 ⟨_,tt.e0 m _ (q6.e7 m m (blen m) (by omega) (by omega) h (Nat.mod_eq_of_lt h) (Jb.zW h) (by have:=nD (n:=m) (k:=8) h;omega) (by have:=nD (n:=m) (k:=8) h;omega))⟩
def UA:List PV→ByteArray
 |.str s::_=>s
 |_=>ByteArray.empty
def cJ(x y:List PV):Int:=xU (UA x) (UA y)
theorem Mf(xs:List (List PV)):JD cJ xs where
 irrefl a _ h:=by rw[cJ,qR,fA] at h;cases h
 trans a _ b _ c _ h1 h2:=by rw[cJ,qR] at *;exact o5 h1 h2
 ntrans a _ b _ c _ h1 h2 h3:=by
  rw[cJ,qR] at *
  simp only[Bool.not_eq_true] at h1 h2
  rw[vh h2 h1] at h3;cases h3
theorem FD(L:List ak)(h0:0<L.length)(hn:(L.map ak.name).Nodup):lF cJ (L.map ak.cells)=(gg ak.name L).map ak.cells:=by
 have N8:0<(L.map ak.cells).length:=by rw[List.length_map];exact h0
 have hO:=Mf (L.map ak.cells)
 have he:lF cJ (L.map ak.cells)=((fV cJ (L.map ak.cells)).toList.map (L.getD · ⟨ByteArray.empty,0,0,0,0,0,0⟩)).map ak.cells:=by
  unfold lF
  rw[List.map_map]
  refine List.map_congr_left (fun i hi => ?_)
  have IE:=sN hO N8 hi
  rw[List.length_map] at IE
  show(L.map ak.cells).getD i []=(L.getD i ⟨ByteArray.empty,0,0,0,0,0,0⟩).cells
  rw[List.getD_eq_getElem?_getD,List.getElem?_map,List.getElem?_eq_getElem IE,List.getD_eq_getElem?_getD,List.getElem?_eq_getElem IE]
  rfl
 rw[he]
 congr 1
 have hp:((fV cJ (L.map ak.cells)).toList.map (L.getD · (⟨ByteArray.empty,0,0,0,0,0,0⟩:ak))).Perm L:=by
  have:=(mJ hO N8).1.map (L.getD · (⟨ByteArray.empty,0,0,0,0,0,0⟩:ak))
  rw[List.length_map,Ae] at this
  exact this
 refine vi hn (sG ?_ ((hp.map ak.name).nodup_iff.2 hn)) hp
 have:=AQ hO N8
 rw[he,List.pairwise_map] at this
 refine this.imp (fun {a b} h => ?_)
 have h:¬xU b.name a.name<0:=h
 rw[qR] at h
 simpa using h
theorem Qk(a b:ak):Cp 107 [a.pv,b.pv] (vI (xU a.name b.name)):=tv.e0 a b _ (Compare _ _)
theorem Mg(a b:ag):Cp 110 [a.pv,b.pv] (vI (xU a.name b.name)):=tx.e0 a b _ (Compare _ _)
theorem Ql(L:List ak)(hl:L.length≤16)(hn:(L.map ak.name).Nodup):av bp 106 [.row 100000 0 L.length 7,.pv (.fn 107)] [(100000,(.pure ((L:List ak).map ak.cells).flatten))] (.pv (.bx [])) [(100000,(.pure ((gg ak.name L:List ak).map ak.cells).flatten))]:=by
 by_cases h0:L.length=0
 ·have:L=[]:=List.length_eq_zero_iff.1 h0
  subst this
  obtain⟨b,hb⟩:=QY 0 (by omega)
  refine lQ.e0 [] 0 0 _ [] (by omega) hb ?_
  refine fz.e0 [] 0 0 0 b ?_
  refine fz.eo 0 0 0 b [] [] rfl rfl (by unfold aO;omega) (by omega) ?_
  refine dU.e0 [] 0 0 0 (by unfold aO;omega) ?_
  exact dU.ew 0 0 0 _ [] rfl rfl (by omega)
 ·have h:=Ln (P:=bp) (ρ:=Lay.tz) (k:=7) (n:=L.length) (xs:=L.map ak.cells) (c:=cJ) (by unfold Ou;trivial) Lay.Hm (pe Tryz.func106 (by kernel_rfl)) Tryz.isAgg65 Tryz.sizeOf65 [] [] 100000 (by omega) (fun row hr=>by obtain⟨a,_,rfl⟩:=List.mem_map.1 hr;rfl) (by rw[List.length_map]) (by omega) (by omega) (by omega) (Mf _) (g:=107) (fun a ha b hb=>by
   obtain⟨x,hx,rfl⟩:=List.mem_map.1 ha
   obtain⟨y,hy,rfl⟩:=List.mem_map.1 hb
   exact Qk x y)
  rw[List.nil_append,List.append_nil,List.nil_append,List.append_nil,FD L (by omega) hn] at h
  exact h
def Mh(a b:ag):Bool:=strLt a.name b.name
theorem Tk(n:Nat)(Tl:n≤12)(D T:List ag)(hn:D.length+T.length=n)(sin:aG)(hs:sin.all (fun p=>Nat.ble aV.fn.ntmps p.1)=true)
  (hi:∀g:List ag,sin.all (fun p=>pN p.1||(aG.get [(100000,(.pure ((g:List ag).map ag.cells).flatten))] p.1).isSome)=true) :
  aV.au n 0 (n:Int) (D.length:Int) (D++T) sin (.pv (.bx [])) [(100000,(.pure ((isort Mh D T:List ag).map ag.cells).flatten))]:=by
 refine uk (lt:=Mh) (n:=n) (L1:=fun i X=>aV.au n 0 (n:Int) (i:Int) X sin (.pv (.bx [])) [(100000,(.pure ((isort Mh D T:List ag).map ag.cells).flatten))])
  (L2:=fun i j X=>aV.aM n 0 (n:Int) (i:Int) (j:Int) X sin (.pv (.bx [])) [(100000,(.pure ((isort Mh D T:List ag).map ag.cells).flatten))])
  (fun i X tD hX h=>aV.eo n 0 n i X hs (by omega) h)
  (fun i X tD hX h=>aV.xR n 0 n i 0 X hs (by omega) (by unfold aO;omega) h)
  (fun i j X x y tD OI hX hx hy hc h => ?_) (fun i j X x y tD OI hX hx hy hc h => ?_) T D hn ?_
 ·refine aV.mX n 0 n i ((j+1:Nat):Int) X (j+1) x j y _ j y (j+1) x (j+1) j hs (by omega) rfl (by omega) hx (by unfold aO;omega) (by omega) (by omega) hy (Mg x y) (qR.2 hc) (by omega) (by omega) hy rfl (by omega) hx rfl (by omega) (by omega) (by omega) (by omega) (by rw[List.length_set];omega) ?_
  rw[show (((j+1:Nat):Int)-1)=(j:Int) by omega]
  exact h
 ·exact aV.mY n 0 n i ((j+1:Nat):Int) X (j+1) x j y _ hs (by omega) rfl (by omega) hx (by unfold aO;omega) (by omega) (by omega) hy (Mg x y) (Gu hc) (by unfold aO;omega) h
 ·exact aV.ew n 0 n n _ hs (hi _) (Int.le_refl _)
theorem Ob(L:List ag)(hn:(L.map ag.name).Nodup):isort Mh (L.take 1) (L.drop 1)=gg ag.name L:=by
 have hp:(isort Mh (L.take 1) (L.drop 1)).Perm L:=by
  have:=uj (lt:=Mh) (L.drop 1) (L.take 1)
  rwa[List.take_append_drop] at this
 refine vi hn (sG (Ac (lt:=Mh) (fun a b c h1 h2=>vh h1 h2) (fun a b h=>o6 h) _ _ ?_) ((hp.map ag.name).nodup_iff.2 hn)) hp
 cases L with
 |nil=>exact .nil
 |cons x t=>exact List.pairwise_singleton ..
theorem Qm(L:List ag)(hl:L.length≤2)(hn:(L.map ag.name).Nodup):av bp 109 [.row 100000 0 L.length 2,.pv (.fn 110)] [(100000,(.pure ((L:List ag).map ag.cells).flatten))] (.pv (.bx [])) [(100000,(.pure ((gg ag.name L:List ag).map ag.cells).flatten))]:=by
 obtain⟨b,hb⟩:=QY L.length (by omega)
 refine ly.e0 L L.length L.length b _ (by omega) hb ?_
 refine fh.e0 L L.length 0 L.length b ?_
 refine fh.eo L.length 0 L.length b L _ rfl rfl (by unfold aO;omega) (by omega) ?_
 refine aV.e0 L L.length 0 L.length (by unfold aO;omega) ?_
 by_cases h0:L=[]
 ·subst h0
  exact aV.ew 0 0 0 _ [] rfl rfl (by decide)
 ·have h1:(L.take 1).length=1:=by
   obtain⟨x,t,rfl⟩:=List.exists_cons_of_ne_nil h0;rfl
  have h2:(L.take 1).length+(L.drop 1).length=L.length:=by
   rw[←List.length_append,List.take_append_drop]
  have key:=Tk L.length (by omega) (L.take 1) (L.drop 1) h2 [(100000,(.pure ((L:List ag).map ag.cells).flatten))] rfl (fun _=>rfl)
  rw[List.take_append_drop,h1,Ob L hn] at key
  exact key
def kI(names:List ByteArray)(v:Int):ByteArray:=(names[v.toNat]?).getD ByteArray.empty
def Kk(names:List ByteArray)(a b:Int):Bool:=strLt (kI names a) (kI names b)
theorem Gv{names:List ByteArray}{k:Nat}{s:ByteArray}(h:names[k]? = some s):kI names (k:Int)=s:=by
 unfold kI;rw[Int.toNat_natCast,h];rfl
abbrev castL(l:List Nat):List Int:=l.map fun (k:Nat)=>(k:Int)
def vt(names:List ByteArray)(l:Nat):List Int:=castL (List.range l)++(names.drop l).map fun s=>((l+rk id (names.drop l) s:Nat):Int)
theorem Gw{names:List ByteArray}{a b:Int}{s t:ByteArray}{k k':Nat}(ha:a=(k:Int))(hs:names[k]? = some s)(hb:b=(k':Int))(ht:names[k']? = some t) :
  av bp 140 [eI a,eI b,(.ptr 100002 0)] [(100002,(.lit [(.pv (bG aQ names))]))] (.pv (vI (xU (kI names a) (kI names b)))) [(100002,(.lit [(.pv (bG aQ names))]))]:=by
 rw[show kI names a=s by rw[ha];exact Gv hs,show kI names b=t by rw[hb];exact Gv ht]
 exact q7.e0 a b names k s k' t _ ha hs hb ht (Compare s t)
def D1(names:List ByteArray)(X:List Int):Prop:=∀v∈X,∃k s,v=((k:Nat):Int)∧names[k]? = some s
theorem Tm(names:List ByteArray)(n:Nat)(Tl:n≤12)(P0 D T:List Int)(hn:D.length+T.length=n)(hN:D1 names (D++T))(sin:aG)(hs:sin.all (fun p=>Nat.ble bf.fn.ntmps p.1)=true)
  (hi:∀g:List Int,sin.all (fun p=>pN p.1||(aG.get [(100000,(.pure ((g:List Int).map aB).flatten)),(100003,(.lit [(.pv (bG aQ names))]))] p.1).isSome)=true) :
  bf.au P0.length n 0 (n:Int) (D.length:Int) (P0++(D++T)) names sin (.pv (.bx [])) [(100000,(.pure ((P0++isort (Kk names) D T:List Int).map aB).flatten)),(100003,(.lit [(.pv (bG aQ names))]))]:=by
 have fS:∀(X:List Int) (j:Nat),(P0++X)[P0.length+j]? = X[j]? := fun X j=>by rw[List.getElem?_append_right (Nat.le_add_right _ _),Nat.add_sub_cancel_left]
 have EI:∀(X:List Int) (j:Nat) (v:Int),(P0++X).set (P0.length+j) v=P0++X.set j v:=fun X j v=>by rw[List.set_append_right _ _ (Nat.le_add_right _ _),Nat.add_sub_cancel_left]
 have key:=uk (lt:=Kk names) (n:=n) (L1:=fun i X=>D1 names X→bf.au P0.length n 0 (n:Int) (i:Int) (P0++X) names sin (.pv (.bx [])) [(100000,(.pure ((P0++isort (Kk names) D T:List Int).map aB).flatten)),(100003,(.lit [(.pv (bG aQ names))]))])
  (L2:=fun i j X=>D1 names X→bf.aM P0.length n 0 (n:Int) (i:Int) (j:Int) (P0++X) names sin (.pv (.bx [])) [(100000,(.pure ((P0++isort (Kk names) D T:List Int).map aB).flatten)),(100003,(.lit [(.pv (bG aQ names))]))])
  (fun i X tD hX h hN=>bf.eo _ n 0 n i _ names hs (by omega) (h hN))
  (fun i X tD hX h hN=>bf.xR _ n 0 n i 0 _ names hs (by omega) (by unfold aO;omega) (h hN))
  (fun i j X x y tD OI hX hx hy hc h hN => ?_) (fun i j X x y tD OI hX hx hy hc h hN => ?_) T D hn ?_
 ·exact key hN
 ·obtain⟨kx,sx,ex,gx⟩:=hN x (List.mem_of_getElem? hx)
  obtain⟨ky,sy,ey,gy⟩:=hN y (List.mem_of_getElem? hy)
  refine bf.mX P0.length n 0 n i ((j+1:Nat):Int) _ names (j+1) x j y _ j y (j+1) x (j+1) j hs (by omega) rfl (by omega) (by rw[fS];exact hx) (by unfold aO;omega) (by omega) (by omega) (by rw[fS];exact hy) (Gw ex gx ey gy) (qR.2 hc) (by omega) (by omega) (by rw[fS];exact hy) rfl (by omega) (by rw[fS];exact hx) rfl (by omega) (by rw[List.length_append];omega) (by omega) (by omega) (by rw[List.length_set,List.length_append];omega) ?_
  rw[EI,EI,show(((j+1:Nat):Int)-1)=(j:Int) by omega]
  refine h (fun v hv => ?_)
  rcases List.mem_or_eq_of_mem_set hv with hv|rfl
  ·rcases List.mem_or_eq_of_mem_set hv with hv|rfl
   ·exact hN v hv
   ·exact⟨ky,sy,ey,gy⟩
  ·exact⟨kx,sx,ex,gx⟩
 ·obtain⟨kx,sx,ex,gx⟩:=hN x (List.mem_of_getElem? hx)
  obtain⟨ky,sy,ey,gy⟩:=hN y (List.mem_of_getElem? hy)
  exact bf.mY P0.length n 0 n i ((j+1:Nat):Int) _ names (j+1) x j y _ hs (by omega) rfl (by omega) (by rw[fS];exact hx) (by unfold aO;omega) (by omega) (by omega) (by rw[fS];exact hy) (Gw ex gx ey gy) (Gu hc) (by unfold aO;omega) (h hN)
 ·intro _
  exact bf.ew _ n 0 n n _ names hs (hi _) (Int.le_refl _)
theorem Qn(names:List ByteArray)(P0 L:List Int)(hl:L.length≤12)(hN:D1 names L):av bp 139 [.row 100000 P0.length L.length 1,.mM 140 100001] [(100000,(.pure ((P0++L:List Int).map aB).flatten)),(100001,(.lit [(.pv (bG aQ names))]))] (.pv (.bx [])) [(100000,(.pure ((P0++isort (Kk names) (L.take 1) (L.drop 1):List Int).map aB).flatten)),(100001,(.lit [(.pv (bG aQ names))]))]:=by
 obtain⟨b,hb⟩:=QY L.length (by omega)
 refine mZ.e0 (P0++L) P0.length L.length names L.length b _ (by omega) hb ?_
 refine fU.e0 (P0++L) P0.length L.length 0 L.length b names ?_
 refine fU.eo P0.length L.length 0 L.length b (P0++L) names _ rfl rfl (by unfold aO;omega) (by omega) ?_
 refine bf.e0 (P0++L) P0.length L.length 0 L.length names (by unfold aO;omega) ?_
 by_cases h0:L=[]
 ·subst h0
  exact bf.ew _ 0 0 0 _ _ names rfl rfl (by decide)
 ·have h1:(L.take 1).length=1:=by
   obtain⟨x,t,rfl⟩:=List.exists_cons_of_ne_nil h0;rfl
  have h2:(L.take 1).length+(L.drop 1).length=L.length:=by
   rw[←List.length_append,List.take_append_drop]
  have key:=Tm names L.length (by omega) P0 (L.take 1) (L.drop 1) h2 (by rw[List.take_append_drop];exact hN) [(100000,(.pure ((P0++L:List Int).map aB).flatten)),(100003,(.lit [(.pv (bG aQ names))]))] rfl (fun _=>rfl)
  rw[List.take_append_drop,h1] at key
  exact key
theorem fE(l:List Nat):(castL l).length=l.length:=List.length_map ..
theorem vu{l:List Nat}{k:Nat} : (castL l)[k]? = (l[k]?).map fun (k:Nat)=>(k:Int):=List.getElem?_map ..
theorem JL{names:List ByteArray}{l:Nat}(hl:l≤names.length):(vt names l).length=names.length:=by
 unfold vt;rw[List.length_append,fE,List.length_range,List.length_map,List.length_drop];omega
theorem Lq{names:List ByteArray}{l:Nat}(hl:l≤names.length)(hn:(names.drop l).Nodup){Z d:List Int}(hZ:Z.Perm (castL (List.range' l (names.length-l))))(hs:Z.Pairwise fun a b=>Kk names b a=false)
  (hd:d.length=names.length) (h:∀(c k:Nat),(castL (List.range l)++Z)[c]? = some (k:Int)→d[k]? = some (c:Int)):d=vt names l:=by
 have j0:((names.drop l).map id).Nodup:=by rw[List.map_id];exact hn
 have UB:(Z.map (kI names)).Perm (names.drop l):=by
  refine(hZ.map (kI names)).trans (.of_eq ?_)
  apply List.ext_getElem?
  intro i
  rw[List.getElem?_map,vu,List.getElem?_drop]
  by_cases hi:i<names.length-l
  ·rw[List.getElem?_range' hi]
   have e:=List.getElem?_eq_getElem (l:=names) (i:=l+i) (by omega)
   rw[e,show l+1*i=l+i by omega]
   show some (kI names ((l+i:Nat):Int))=_
   rw[Gv e]
  ·rw[List.getElem?_eq_none (show (List.range' l (names.length-l)).length≤i by rw[List.length_range'];omega),List.getElem?_eq_none (by omega)];rfl
 have Wz:(Z.map (kI names)).Nodup:=UB.nodup_iff.2 hn
 have Tn:K4 (kI names) Z:=sG hs Wz
 apply List.ext_getElem?
 intro i
 by_cases hi:i<names.length
 ·by_cases IE:i<l
  ·have:=h i i (by rw[List.getElem?_append_left (by rw[fE,List.length_range];exact IE),vu,List.getElem?_range IE];rfl)
   rw[this]
   unfold vt
   rw[List.getElem?_append_left (by rw[fE,List.length_range];exact IE),vu,List.getElem?_range IE];rfl
  ·have hm:(i:Int)∈Z:=hZ.mem_iff.2 (List.mem_map.2 ⟨i,by rw[List.mem_range'_1];omega,rfl⟩)
   obtain⟨p,hp⟩:=List.mem_iff_getElem?.1 hm
   have e:=List.getElem?_eq_getElem hi
   have h1:=h (l+p) i (by rw[List.getElem?_append_right (by rw[fE,List.length_range];omega),fE,List.length_range,Nat.add_sub_cancel_left];exact hp)
   have h2:=Cj Tn hp
   rw[Gv e] at h2
   have h3:rk (kI names) Z names[i]=rk id (names.drop l) names[i]:=by
    rw[←Ci UB]
    exact(zU (key:=kI names) (key':=id) (kI names) (fun _=>rfl) Z _).symm
   rw[h1]
   unfold vt
   rw[List.getElem?_append_right (by rw[fE,List.length_range];omega),fE,List.length_range,List.getElem?_map,List.getElem?_drop,show l+(i-l)=i by omega,e,Option.map_some,←h3,h2]
 ·rw[List.getElem?_eq_none (by omega),List.getElem?_eq_none (by rw[JL hl];omega)]
theorem Hn{α:Type}{xs:List α}(hn:xs.Nodup){i k:Nat}{x:α}(h1:xs[i]? = some x)(h2:xs[k]? = some x):i=k:=by
 have hp:=List.pairwise_iff_getElem.1 hn
 obtain⟨g1,e1⟩:=List.getElem?_eq_some_iff.1 h1
 obtain⟨g2,e2⟩:=List.getElem?_eq_some_iff.1 h2
 rcases Nat.lt_trichotomy i k with h3|h3|h3
 ·exact absurd (by rw[e1,e2]) (hp i k g1 g2 h3)
 ·exact h3
 ·exact absurd (by rw[e1,e2]) (hp k i g2 g1 h3)
theorem sorted(names:List ByteArray)(l:Nat)(hl:l≤names.length)(cw:names.length≤12)(hn:(names.drop l).Nodup):Cp 105 [bG aQ names,vI (l:Int)] (bG aB (vt names l)):=by
 have GO:=hl
 refine dC.e0 names l (by omega) ?_
 have fill:∀(m d:Nat) (g:List Int),d+m=names.length→g.length=names.length→(∀k:Nat,k<d→g[k]? = some (k:Int)) →
   dC.au (l:Int) names names.length (castL (List.range names.length)) (bG aB (vt names l))→dC.au (l:Int) names d g (bG aB (vt names l)):=by
  intro m
  induction m with
  |zero =>
   intro d g hd hg hk h
   have e:g=castL (List.range names.length):=by
    apply List.ext_getElem?
    intro i
    rw[vu]
    by_cases hi:i<names.length
    ·rw[hk i (by omega),List.getElem?_range hi];rfl
    ·rw[List.getElem?_eq_none (by omega),List.getElem?_eq_none (by rw[List.length_range];omega)];rfl
   have:d=names.length:=by omega
   subst this
   rw[e];exact h
  |succ m ih =>
   intro d g hd hg hk h
   refine dC.eo l names d g (by omega) (by omega) (by omega) (ih (d+1) _ (by omega) (by rw[List.length_set];exact hg) (fun k QE => ?_) h)
   rw[List.getElem?_set]
   by_cases hkd':d=k
   ·rw[if_pos hkd',if_pos (by omega),hkd']
   ·rw[if_neg hkd'];exact hk k (by omega)
 refine fill names.length 0 _ (by omega) (by rw[List.length_replicate]) (fun k hk=>by omega) ?_
 have UC:castL (List.range names.length)=castL (List.range l)++castL (List.range' l (names.length-l)):=by
  unfold castL
  rw[←List.map_append]
  congr 1
  rw[List.range_eq_range',List.range_eq_range']
  have:=List.range'_append (s:=0) (m:=l) (n:=names.length-l) (step:=1)
  rw[Nat.zero_add,Nat.one_mul] at this
  rw[this,show l+(names.length-l)=names.length by omega]
 have UD:(castL (List.range' l (names.length-l))).length=names.length-l:=by rw[fE,List.length_range']
 have hN:D1 names (castL (List.range' l (names.length-l))):=fun v hv=>by
  obtain⟨k,hk,rfl⟩:=List.mem_map.1 hv
  rw[List.mem_range'_1] at hk
  exact⟨k,_,rfl,List.getElem?_eq_getElem (by omega)⟩
 have Mi:∀(Z:List Int),Z.Perm (castL (List.range' l (names.length-l)))→Z.Pairwise (fun a b=>Kk names b a=false)→dC.aM names 0 (castL (List.range l)++Z) (List.replicate names.length (0:Int)) (bG aB (vt names l)):=by
  intro Z hp hw
  have Xq:Z.length=names.length-l:=by rw[hp.length_eq,UD]
  have Th:(castL (List.range l)++Z).length=names.length:=by rw[List.length_append,fE,List.length_range];omega
  have UE:(castL (List.range l)++Z).Perm (castL (List.range names.length)):=by rw[UC];exact hp.append_left _
  have To:(castL (List.range l)++Z).Nodup:=by
   refine UE.nodup_iff.2 (List.pairwise_map.2 (List.nodup_range.imp fun {a b} h e=>h (by omega)))
  have back:∀(m c:Nat) (d:List Int),c+m=names.length→d.length=names.length→(∀(c' k:Nat),c'<c→(castL (List.range l)++Z)[c']? = some (k:Int)→d[k]? = some (c':Int)) →
    dC.aM names c (castL (List.range l)++Z) d (bG aB (vt names l)):=by
   intro m
   induction m with
   |zero =>
    intro c d hc hd h
    have e:=Lq GO hn hp hw hd (fun c' k hk=>h c' k (by have:=(List.getElem?_eq_some_iff.1 hk).1;omega) hk)
    rw[←e]
    exact dC.mY names c _ d (by omega) hd.symm
   |succ m ih =>
    intro c d hc hd h
    have hz:=List.getElem?_eq_getElem (l:=castL (List.range l)++Z) (i:=c) (by omega)
    obtain⟨k,hk,ek⟩:=List.mem_map.1 (UE.mem_iff.1 (List.mem_of_getElem? hz))
    have hk:k<names.length:=by simpa using hk
    rw[←ek] at hz
    refine dC.mX names c _ d _ k (by omega) hz rfl (by omega) (by omega) (by omega) (ih (c+1) _ (by omega) (by rw[List.length_set];exact hd) (fun c' k' GC Ei => ?_))
    rw[List.getElem?_set]
    by_cases e:k=k'
    ·subst e
     have:c'=c:=Hn To Ei hz
     rw[if_pos rfl,if_pos (by omega),this]
    ·rw[if_neg e]
     refine h c' k' ?_ Ei
     rcases Nat.lt_or_ge c' c with h1|h1
     ·exact h1
     ·have:c'=c:=by omega
      subst this
      rw[hz] at Ei;injection Ei with Ei
      exact absurd (by omega) e
  exact back names.length 0 _ (by omega) (by rw[List.length_replicate]) (fun c' k h=>by omega)
 by_cases cQ:l<names.length
 ·have hS:=Qn names (castL (List.range l)) (castL (List.range' l (names.length-l))) (by omega) hN
  rw[UD,fE,List.length_range] at hS
  have hp:=uj (lt:=Kk names) ((castL (List.range' l (names.length-l))).drop 1) ((castL (List.range' l (names.length-l))).take 1)
  rw[List.take_append_drop] at hp
  have hw:=Ac (lt:=Kk names) (fun a b c h1 h2=>vh h1 h2) (fun a b h=>o6 h) ((castL (List.range' l (names.length-l))).drop 1) ((castL (List.range' l (names.length-l))).take 1)
   (by cases castL (List.range' l (names.length-l)) with
     |nil=>exact .nil
     |cons x t=>exact List.pairwise_singleton ..)
  generalize isort (Kk names) ((castL (List.range' l (names.length-l))).take 1) ((castL (List.range' l (names.length-l))).drop 1)=Z at hS hp hw
  refine dC.ew l names names.length _ l (castL (List.range l)++Z) (Nat.le_refl _) rfl cQ GO ?_ (by omega) (Mi Z hp hw)
  rw[Nat.zero_add,Nat.mul_one,UC]
  exact hS
 ·have QZ:l=names.length:=by omega
  have h:=Mi [] (by rw[QZ,Nat.sub_self];exact .refl _) .nil
  rw[List.append_nil] at h
  rw[←QZ] at h ⊢
  obtain⟨b,hb⟩:=QY 0 (by omega)
  refine dC.nr l names l _ l (by omega) rfl (by omega) QZ ?_ (by omega) (by rw[←QZ];exact h)
  refine mD.e0 [] names 0 b rfl hb ?_
  refine fM.e0 [] 0 0 b names ?_
  refine fM.eo [] 0 0 b names rfl rfl (by unfold aO;omega) (by omega) ?_
  refine eb.e0 [] 0 0 names (by unfold aO;omega) ?_
  exact eb.ew [] 0 0 _ names rfl rfl (by omega)
theorem iH{α:Type}{xs:List α}{i:Nat}{x:α}(h:xs[i]? = some x):xs.take (i+1)=xs.take i++[x]:=by
 rw[List.take_add_one,h];rfl
theorem Tp{f:FuncId}{args:List EV}{sin:aG}{fs:List FE}{a b c:Nat}{p q r:List PV}{s:aG}(ha:a<999999)(hb:b<999999)(hc:c<999999)
  (h:av bp f args sin (.dV fs) ((a,.pure p)::(b,.pure q)::(c,.pure r)::s)) (BB:∀y off len sz,FE.row y off len sz∈fs→y=a∨y=b∨y=c) (MZ:∀j len sz,FE.cv j len sz ∉ fs:=by simp) :
  av bp f args sin (.dV fs) [(a,.pure p),(b,.pure q),(c,.pure r)]:=by
 refine h.sub (fun x sc hx => ?_) (fun y off len sz hy => ?_) MZ
 ·rw[aG.bY ha,aG.bY hb,aG.bY hc,aG.get_nil] at hx
  rw[aG.bY ha,aG.bY hb,aG.bY hc]
  cases h1:Nat.beq a x with
  |true=>rw[h1,cond_true] at hx;rw[cond_true];injection hx with hx;subst hx;exact⟨rfl,rfl⟩
  |false =>
   rw[h1,cond_false] at hx;rw[cond_false]
   cases h2:Nat.beq b x with
   |true=>rw[h2,cond_true] at hx;rw[cond_true];injection hx with hx;subst hx;exact⟨rfl,rfl⟩
   |false =>
    rw[h2,cond_false] at hx;rw[cond_false]
    cases h3:Nat.beq c x with
    |true=>rw[h3,cond_true] at hx;rw[cond_true];injection hx with hx;subst hx;exact⟨rfl,rfl⟩
    |false=>rw[h3,cond_false] at hx;cases hx
 ·unfold aS
  rw[aG.bY ha,aG.bY hb,aG.bY hc]
  rcases BB y off len sz hy with rfl|rfl|rfl
  ·rw[Nat.beq_refl];rfl
  ·cases h1:Nat.beq a y<;>simp
  ·cases h1:Nat.beq a y<;>cases h2:Nat.beq b y<;>simp
theorem yj{x:aK}(hf:fi x)(hv:x.valid=true):Cp 38 [x.pv,(⟨false,[],[]⟩:aK).pv] x.pv:=by
 have h:=xi.Add x ⟨false,[],[]⟩ hf.r (by unfold l8;simp)
 have e:(⟨false,[],[]⟩:aK).val=0:=rfl
 rw[e,Rat.add_zero,Jr hv] at h
 exact h
namespace fF
theorem copied{l:aj}(hl:Ok l)(hf:lM l):av bp 36 [.pv l.pv] [] (.dV [.pv (.str l.name),.row 56 0 l.ab.length 2,.row 13 0 l.aq.length 7,.row 16 0 l.an.length 2]) [(56,(.pure ((l.ab:List ah).map ah.cells).flatten)),(13,(.pure ((l.aq:List ak).map ak.cells).flatten)),(16,(.pure ((l.an:List ag).map ag.cells).flatten))]:=by
 refine Tp (s:=[(2,(.lit [(.pv (.str l.name)),(.row 56 0 l.ab.length 2),(.row 13 0 l.aq.length 7),(.row 16 0 l.an.length 2)]))]) (by omega) (by omega) (by omega) ?_ (fun y off len sz h=>by simpa using(show y=56∨y=13∨y=16 by simp at h;omega))
 refine fC.e0 l l.aq l.an (JJ _ (by have:=hl.jl;omega)) (JK _ (by have:=hl.dl;omega)) ?_
 have key:∀(m b:Nat),b+m=l.ab.length→fC.au l b (l.ab.take b) l.aq l.an [] (.dV [.pv (.str l.name),.row 56 0 l.ab.length 2,.row 13 0 l.aq.length 7,.row 16 0 l.an.length 2]) [(56,(.pure ((l.ab:List ah).map ah.cells).flatten)),(13,(.pure ((l.aq:List ak).map ak.cells).flatten)),(16,(.pure ((l.an:List ag).map ag.cells).flatten)),(2,(.lit [(.pv (.str l.name)),(.row 56 0 l.ab.length 2),(.row 13 0 l.aq.length 7),(.row 16 0 l.an.length 2)]))]:=by
  intro m
  induction m with
  |zero =>
   intro b hb
   have e:l.ab.take b=l.ab:=List.take_of_length_le (by omega)
   rw[e]
   exact fC.ew l b l.ab l.aq l.an rfl rfl (by omega)
  |succ m ih =>
   intro b hb
   have hv:=List.getElem?_eq_getElem (l:=l.ab) (i:=b) (by omega)
   generalize l.ab[b]=v at hv
   have rl:=hl.ab v (List.mem_of_getElem? hv)
   have Ho:=hf.ab v (List.mem_of_getElem? hv)
   have h8:=rl.2.len
   have UF:=hl.len
   refine fC.eo l b _ _ _ v rfl (by omega) hv ?_
   have FF:∀(m c:Nat),c+m=v.points.length→fC.aM l b v c (l.ab.take b) l.aq l.an (v.points.take c) [] (.dV [.pv (.str l.name),.row 56 0 l.ab.length 2,.row 13 0 l.aq.length 7,.row 16 0 l.an.length 2]) [(56,(.pure ((l.ab:List ah).map ah.cells).flatten)),(13,(.pure ((l.aq:List ak).map ak.cells).flatten)),(16,(.pure ((l.an:List ag).map ag.cells).flatten)),(2,(.lit [(.pv (.str l.name)),(.row 56 0 l.ab.length 2),(.row 13 0 l.aq.length 7),(.row 16 0 l.an.length 2)]))]:=by
    intro m
    induction m with
    |zero =>
     intro c hc
     have e:v.points.take c=v.points:=List.take_of_length_le (by omega)
     rw[e]
     have h:=ih (b+1) (by omega)
     rw[iH hv] at h
     exact fC.mY l b v c _ _ _ v.points rfl (by omega) (by rw[List.length_append,List.length_take,List.length_singleton];omega) (by omega) h
    |succ m BM =>
     intro c hc
     have hp:=List.getElem?_eq_getElem (l:=v.points) (i:=c) (by omega)
     generalize v.points[c]=p at hp
     have Qo:=rl.2.all p (List.mem_of_getElem? hp)
     have Bv:=Ho.2 p (List.mem_of_getElem? hp)
     have h:=BM (c+1) (by omega)
     rw[iH hp] at h
     exact fC.mX l b v c _ _ _ _ p p.x p.y rfl (by omega) hp (yj Bv.2.1 Qo.2.1) (yj Bv.2.2 Qo.2.2) (by rw[List.length_append,List.length_take,List.length_singleton];omega) (by omega) h
   exact FF v.points.length 0 (by omega)
 exact key l.ab.length 0 (by omega)
end fF
abbrev Hp(b:ah):List Int:=vt (b.points.map ai.name) 0
abbrev FH(l:aj):List (List Int):=l.ab.map Hp
abbrev TO(l:aj):List Int:=vt (l.ab.map ah.name) 1
theorem pf{b:ah}{k:Nat}{p:ai}(h:b.points[k]? = some p):(Hp b)[k]? = some (DK b (k:Int)):=by
 unfold Hp vt DK
 rw[o9,h,show castL (List.range 0)=[] from rfl,List.nil_append,List.drop_zero,List.getElem?_map,List.getElem?_map,h]
 show some (((0+rk id (b.points.map ai.name) p.name:Nat)):Int)=_
 rw[Nat.zero_add,zU (key:=ai.name) (key':=id) ai.name (fun _=>rfl)]
theorem si{l:aj}{k:Nat}{b:ah}(h:l.ab[k]? = some b):(FH l)[k]? = some (Hp b):=by
 unfold FH;rw[List.getElem?_map,h];rfl
theorem xm{l:aj}{k:Nat}{b:ah}(h:l.ab[k]? = some b):(TO l)[k]? = some (rB l (k:Int)):=by
 unfold TO vt rB
 cases k with
 |zero =>
  rw[List.getElem?_append_left (by rw[fE,List.length_range];omega)];rfl
 |succ k =>
  rw[List.getElem?_append_right (by rw[fE,List.length_range];omega),fE,List.length_range,List.getElem?_map,List.getElem?_drop,List.getElem?_map,show 1+(k+1-1)=k+1 by omega,h,if_neg (by omega),o9,h]
  show some (((1+rk id ((l.ab.map ah.name).drop 1) b.name:Nat)):Int)=some (1+(rk ah.name (l.ab.drop 1) b.name:Int))
  rw[←List.map_drop,zU (key:=ah.name) (key':=id) ah.name (fun _=>rfl),Int.natCast_add];rfl
theorem D2{α:Type}{f:α→ByteArray}{xs:List α}(hn:(xs.map f).Nodup){i i':Nat}{x y:α}(h1:xs[i]? = some x)(h2:xs[i']? = some y)(h:rk f xs (f x)=rk f xs (f y)):i=i':=by
 have e:=I9 hn (List.mem_of_getElem? h1) (List.mem_of_getElem? h2) h
 exact Br hn h1 h2 (by rw[e])
theorem JM{bs out:List ah}{nm js ds}(hn:(bs.map ah.name).Nodup)(hl:out.length=bs.length)(h:∀(i:Nat) b,bs[i]? = some b→∀k:Nat,rB ⟨nm,bs,js,ds⟩ (i:Int)=(k:Int)→out[k]? = some (nb b)):out=mT bs:=by
 cases bs with
 |nil=>exact List.length_eq_zero_iff.1 hl
 |cons f t =>
  obtain⟨x,o,rfl⟩:=List.exists_cons_of_ne_nil (l:=out) (fun e=>by rw[e] at hl;simp at hl)
  have h0:=h 0 f rfl 0 rfl
  have h0:some x=some (nb f):=h0
  injection h0 with h0
  subst h0
  show nb f::o=nb f::gg ah.name (t.map nb)
  congr 1
  have Dj:((t.map nb).map ah.name).Nodup:=by rw[xh];exact(List.nodup_cons.1 hn).2
  refine DC Dj (by rw[List.length_map];simpa using hl) (fun i y hy => ?_)
  rw[List.getElem?_map] at hy
  cases hb:t[i]? with
  |none=>rw[hb] at hy;cases hy
  |some b =>
   rw[hb] at hy
   injection hy with hy;subst hy
   have:=h (i+1) b hb (1+rk ah.name t b.name) (by
    unfold rB
    rw[if_neg (by omega)]
    show(match nth (f::t) ((i+1:Nat):Int) with|some b=>1+(rk ah.name t b.name:Int)|none=>0)=_
    rw[o9,show(f::t)[i+1]? = some b from hb]
    show 1+(rk ah.name t b.name:Int)=_
    omega)
   rw[zU nb Gq]
   rw[show 1+rk ah.name t b.name=rk ah.name t b.name+1 by omega] at this
   exact this
theorem Lr{l:aj}{k:Nat}{b:ah}(h:l.ab[k]? = some b)(hn:(l.ab.map ah.name).Nodup):∃q:Nat,rB l (k:Int)=(q:Int)∧q<l.ab.length:=by
 have:=Jw (nm:=l.name) (js:=l.aq) (ds:=l.an) hn (i:=(k:Int)) (b:=b) (by rw[o9];exact h)
 obtain⟨q,h1,h2⟩:=dg this
 refine⟨q,h1,?_⟩
 have:=(List.getElem?_eq_some_iff.1 h2).1
 rwa[z6] at this
namespace fF
theorem D3{α:Type}{xs:List α}{j:Nat}{v:α}(f:α→α)(h:xs[j]? = some v):((xs.take j).map f++xs.drop j).set j (f v)=(xs.take (j+1)).map f++xs.drop (j+1):=by
 have cQ:=(List.getElem?_eq_some_iff.1 h).1
 have hl:((xs.take j).map f).length=j:=by rw[List.length_map,List.length_take];omega
 have e:xs.drop j=v::xs.drop (j+1):=by
  rw[List.drop_eq_getElem_cons cQ,(List.getElem?_eq_some_iff.1 h).2]
 rw[e,sJ hl,iH h,List.map_append,List.append_assoc];rfl
theorem D4{α:Type}{xs:List α}{j:Nat}{v:α}(f:α→α)(h:xs[j]? = some v):((xs.take j).map f++xs.drop j)[j]? = some v:=by
 have cQ:=(List.getElem?_eq_some_iff.1 h).1
 have hl:((xs.take j).map f).length=j:=by rw[List.length_map,List.length_take];omega
 have e:xs.drop j=v::xs.drop (j+1):=by
  rw[List.drop_eq_getElem_cons cQ,(List.getElem?_eq_some_iff.1 h).2]
 rw[e];exact cM hl
theorem JN{α:Type}{xs:List α}{j:Nat}(f:α→α):((xs.take j).map f++xs.drop j).length=xs.length:=by
 rw[List.length_append,List.length_map,List.length_take,List.length_drop];omega
theorem norm{l:aj}(hl:Ok l)(hf:lM l):Cp 64 [l.pv] (vp l).pv:=by
 have hlen:=hl.len
 have WA:=hl.pos
 refine b9.e0 l l.name l.ab l.aq l.an (copied hl hf) ?_
 have s6:∀(m d:Nat),d+m=l.an.length→b9.Ds (TO l) l.an d l.name l.ab l.aq (mT l.ab) ((l.an.take d).map (dN l)++l.an.drop d) (l.aq.map (jN l)) (vp l).pv:=by
  intro m
  induction m with
  |zero =>
   intro d hd
   have e:(l.an.take d).map (dN l)++l.an.drop d=l.an.map (dN l):=by
    rw[List.take_of_length_le (by omega),List.drop_eq_nil_of_le (by omega),List.append_nil]
   rw[e]
   have hJ:=Ql (l.aq.map (jN l)) (by rw[List.length_map];exact hl.jl) (by rw[DM];exact hl.jn)
   have hD:=Qm (l.an.map (dN l)) (by rw[List.length_map];exact hl.dl) (by rw[DN];exact hl.dn)
   rw[List.length_map] at hJ hD
   exact b9.V9 (TO l) l.an d l.name l.ab l.aq (mT l.ab) _ _ _ _ (by omega) hJ hD (z6 _).symm (by rw[nK,List.length_map]) (by rw[nK,List.length_map])
  |succ m ih =>
   intro d hd
   have hv:=List.getElem?_eq_getElem (l:=l.an) (i:=d) (by omega)
   generalize l.an[d]=v at hv
   obtain⟨_,⟨b,hb⟩,_⟩:=hl.an v (List.mem_of_getElem? hv)
   obtain⟨k,ek,hk⟩:=dg hb
   have h:=ih (d+1) (by omega)
   rw[←D3 (dN l) hv] at h
   have e:dN l v=⟨v.name,rB l (k:Int)⟩:=by unfold dN;rw[ek]
   rw[e] at h
   exact b9.V8 (TO l) l.an d l.name l.ab l.aq _ _ _ v k _ (by omega) (D4 (dN l) hv) ek (xm hk) (by have:=hl.dl;omega) h
 have s5:∀(m j:Nat),j+m=l.aq.length→b9.mz (FH l) (TO l) l.aq.length l.aq j l.name l.ab l.an (mT l.ab) ((l.aq.take j).map (jN l)++l.aq.drop j) (vp l).pv:=by
  intro m
  induction m with
  |zero =>
   intro j hj
   have e:(l.aq.take j).map (jN l)++l.aq.drop j=l.aq.map (jN l):=by
    rw[List.take_of_length_le (by omega),List.drop_eq_nil_of_le (by omega),List.append_nil]
   rw[e]
   refine b9.V7 (FH l) (TO l) _ l.aq j l.name l.ab l.an _ _ (by omega) ?_
   have h:=s6 l.an.length 0 (by omega)
   rw[List.take_zero,List.map_nil,List.nil_append,List.drop_zero] at h
   exact h
  |succ m ih =>
   intro j hj
   have hv:=List.getElem?_eq_getElem (l:=l.aq) (i:=j) (by omega)
   generalize l.aq[j]=v at hv
   obtain⟨A,B,P,Q,hA,hB,lE,hP,hQ,hk⟩:=(hl.aq v (List.mem_of_getElem? hv)).2
   obtain⟨kA,eA,gA⟩:=dg hA
   obtain⟨kB,eB,gB⟩:=dg hB
   obtain⟨kP,eP,gP⟩:=dg hP
   obtain⟨kQ,eQ,gQ⟩:=dg hQ
   have h:=ih (j+1) (by omega)
   rw[←D3 (jN l) hv] at h
   have pP:DL l v.a v.dx=DK A (kP:Int):=by unfold DL;rw[hA,eP]
   have pQ:DL l v.b v.ou=DK B (kQ:Int):=by unfold DL;rw[hB,eQ]
   have dA:rB l v.a=rB l (kA:Int):=by rw[eA]
   have dB:rB l v.b=rB l (kB:Int):=by rw[eB]
   have hg:=D4 (jN l) hv
   have As:((l.aq.take j).map (jN l)++l.aq.drop j).length=l.aq.length:=JN (jN l)
   have lA:kA<(FH l).length:=by rw[List.length_map];exact(List.getElem?_eq_some_iff.1 gA).1
   have lB:kB<(FH l).length:=by rw[List.length_map];exact(List.getElem?_eq_some_iff.1 gB).1
   have C1:=hl.jl
   rcases hk with ⟨h0,ht⟩|⟨h1,R,hR,_⟩
   ·have Ek:v.kind≠1:=by omega
    by_cases cQ:rB l (kB:Int)<rB l (kA:Int)
    ·have e:jN l v=⟨v.name,v.kind,rB l (kB:Int),DK B (kQ:Int),rB l (kA:Int),DK A (kP:Int),v.mR⟩:=by
      unfold jN Jv;rw[if_neg Ek,pP,pQ,dA,dB,if_pos cQ]
     rw[e] at h
     exact b9.V5 (FH l) (TO l) _ l.aq j l.name l.ab l.an _ _ v kA _ kP _ kB _ kQ _ kA _ kB _ (by omega) (by omega) hg eA lA (si gA) eP (pf gP) eB lB (si gB) eQ (pf gQ) Ek eA (xm gA) eB (xm gB) h0 cQ (by omega) (by omega) h
    ·have e:jN l v=⟨v.name,v.kind,rB l (kA:Int),DK A (kP:Int),rB l (kB:Int),DK B (kQ:Int),v.mR⟩:=by
      unfold jN Jv;rw[if_neg Ek,pP,pQ,dA,dB,if_neg cQ]
     rw[e] at h
     exact b9.V6 (FH l) (TO l) _ l.aq j l.name l.ab l.an _ _ v kA _ kP _ kB _ kQ _ kA _ kB _ (by omega) (by omega) hg eA lA (si gA) eP (pf gP) eB lB (si gB) eQ (pf gQ) Ek eA (xm gA) eB (xm gB) h0 (by omega) (by omega) (by omega) h
   ·obtain⟨kR,eR,gR⟩:=dg hR
    have pR:DL l v.b v.mR=DK B (kR:Int):=by unfold DL;rw[hB,eR]
    have e:jN l v=⟨v.name,v.kind,rB l (kA:Int),DK A (kP:Int),rB l (kB:Int),min (DK B (kQ:Int)) (DK B (kR:Int)),max (DK B (kQ:Int)) (DK B (kR:Int))⟩:=by
     unfold jN;rw[if_pos h1,pP,pQ,pR,dA,dB]
    rw[e] at h
    exact b9.Sm (FH l) (TO l) _ l.aq j l.name l.ab l.an _ _ v kA _ kP _ kB _ kQ _ kB _ kR _ kA _ kB _ (by omega) (by omega) hg eA lA (si gA) eP (pf gP) eB lB (si gB) eQ (pf gQ) h1 eB lB (si gB) eR (pf gR) eA (xm gA) eB (xm gB) (by omega) (by omega) (by omega) h
 have s3:∀(m g:Nat) (o:List ah),g+m=l.ab.length→o.length=l.ab.length→(∀(i:Nat) b,i<g→l.ab[i]? = some b→∀k:Nat,rB l (i:Int)=(k:Int)→o[k]? = some (nb b)) →
   b9.fp (FH l) (TO l) l.ab g l.name l.aq l.an o (vp l).pv:=by
  intro m
  induction m with
  |zero =>
   intro g o hg ho h
   have e:o=mT l.ab:=JM (nm:=l.name) (js:=l.aq) (ds:=l.an) hl.bn ho (fun i b hb k hk=>h i b (by have:=(List.getElem?_eq_some_iff.1 hb).1;omega) hb k hk)
   rw[e]
   refine b9.KW (FH l) (TO l) l.ab g l.name l.aq l.an _ (by omega) ?_
   have h5:=s5 l.aq.length 0 (by omega)
   rw[List.take_zero,List.map_nil,List.nil_append,List.drop_zero] at h5
   exact h5
  |succ m ih =>
   intro g o hg ho h
   have hv:=List.getElem?_eq_getElem (l:=l.ab) (i:=g) (by omega)
   generalize l.ab[g]=v at hv
   have rl:=(hl.ab v (List.mem_of_getElem? hv)).2
   have h8:=rl.len
   refine b9.KV (FH l) (TO l) l.ab g l.name l.aq l.an o v (by omega) hv (by omega) ?_
   have s4:∀(m j:Nat) (p:List ai),j+m=v.points.length→p.length=v.points.length→(∀(i:Nat) x,i<j→v.points[i]? = some x→p[rk ai.name v.points x.name]? = some x) →
     b9.kF (FH l) (TO l) g l.ab g v j l.name l.aq l.an o p (vp l).pv:=by
    intro m
    induction m with
    |zero =>
     intro j p hj hp hi
     have e:p=gg ai.name v.points:=DC rl.nodup hp (fun i x hx=>hi i x (by have:=(List.getElem?_eq_some_iff.1 hx).1;omega) hx)
     rw[e]
     obtain⟨q,hq,CK⟩:=Lr hv hl.bn
     refine b9.PM (FH l) (TO l) g l.ab g v j l.name l.aq l.an o _ _ q (by omega) (by rw[nK]) (xm hv) hq (by omega) (by omega) (by omega) ?_
     refine ih (g+1) _ (by omega) (by rw[List.length_set];exact ho) (fun i b Kh hb k hk => ?_)
     rw[List.getElem?_set]
     by_cases hqk:q=k
     ·have:(i:Int)=(g:Int):=Ll hl.bn (by rw[o9];exact hb) (by rw[o9];exact hv) (by rw[hk,hq,hqk])
      have:i=g:=by omega
      subst this
      rw[hv] at hb;injection hb with hb;subst hb
      rw[if_pos hqk,if_pos (by omega)];rfl
     ·rw[if_neg hqk]
      have Xr:i≠g:=fun e=>by
       subst e
       rw[hq] at hk;omega
      exact h i b (by omega) hb k hk
    |succ m ih4 =>
     intro j p hj hp hi
     have hx:=List.getElem?_eq_getElem (l:=v.points) (i:=j) (by omega)
     generalize v.points[j]=x at hx
     have WB:=PX rl.nodup (List.mem_of_getElem? hx)
     have e2:DK v (j:Int)=((rk ai.name v.points x.name:Nat):Int):=by unfold DK;rw[o9,hx]
     refine b9.PL (FH l) (TO l) g l.ab g v j l.name l.aq l.an o p x _ _ (rk ai.name v.points x.name) (by omega) hx (by rw[List.length_map];omega) (si hv) (pf hx) e2 WB (by omega) (by omega) ?_
     refine ih4 (j+1) _ (by omega) (by rw[List.length_set];exact hp) (fun i y Kh hy => ?_)
     rw[List.getElem?_set]
     by_cases hqk:rk ai.name v.points x.name=rk ai.name v.points y.name
     ·have:=D2 rl.nodup hx hy hqk
      subst this
      rw[hx] at hy;injection hy with hy;subst hy
      rw[if_pos rfl,if_pos (by omega)]
     ·rw[if_neg hqk]
      refine hi i y ?_ hy
      rcases Nat.lt_or_ge i j with h1|h1
      ·exact h1
      ·have:i=j:=by omega
       subst this
       rw[hx] at hy;injection hy with hy;subst hy
       exact absurd rfl hqk
   exact s4 v.points.length 0 _ (by omega) (by rw[List.length_replicate]) (fun i x hi=>by omega)
 have s1:∀(m g:Nat),g+m=l.ab.length→b9.au ((l.ab.take g).map ah.name) ((l.ab.take g).map Hp) l.ab g l.name l.aq l.an (vp l).pv:=by
  intro m
  induction m with
  |zero =>
   intro g hg
   rw[List.take_of_length_le (by omega)]
   have hS:=sorted (l.ab.map ah.name) 1 (by rw[List.length_map];omega) (by rw[List.length_map];omega) (hl.bn.sublist (List.drop_sublist 1 _))
   refine b9.ew _ _ l.ab g l.name l.aq l.an _ (by omega) hS (by omega) ?_
   exact s3 l.ab.length 0 _ (by omega) (by rw[List.length_replicate]) (fun i b hi=>by omega)
  |succ m ih =>
   intro g hg
   have hv:=List.getElem?_eq_getElem (l:=l.ab) (i:=g) (by omega)
   generalize l.ab[g]=v at hv
   have rl:=(hl.ab v (List.mem_of_getElem? hv)).2
   have h8:=rl.len
   refine b9.eo _ _ l.ab g l.name l.aq l.an v (by omega) hv (by rw[List.length_append,List.length_map,List.length_take,List.length_singleton];omega) ?_
   have h:=ih (g+1) (by omega)
   rw[iH hv,List.map_append,List.map_append] at h
   have s2:∀(m j:Nat),j+m=v.points.length→b9.aM ((l.ab.take g).map ah.name++[v.name]) ((l.ab.take g).map Hp) ((v.points.take j).map ai.name) l.ab g v j l.name l.aq l.an (vp l).pv:=by
    intro m
    induction m with
    |zero =>
     intro j hj
     rw[List.take_of_length_le (show v.points.length≤j by omega)]
     have hS:=sorted (v.points.map ai.name) 0 (Nat.zero_le _) (by rw[List.length_map];omega) rl.nodup
     exact b9.mY _ _ _ l.ab g v j l.name l.aq l.an _ (by omega) hS (by rw[List.length_append,List.length_map,List.length_take,List.length_singleton];omega) (by omega) h
    |succ m BM =>
     intro j hj
     have hx:=List.getElem?_eq_getElem (l:=v.points) (i:=j) (by omega)
     generalize v.points[j]=x at hx
     have h2:=BM (j+1) (by omega)
     rw[iH hx,List.map_append] at h2
     exact b9.mX _ _ _ l.ab g v j l.name l.aq l.an x (by omega) hx (by rw[List.length_append,List.length_map,List.length_take,List.length_singleton];omega) (by omega) h2
   exact s2 v.points.length 0 (by omega)
 exact s1 l.ab.length 0 (by omega)
end fF
end Go.Proofs.YtfjfekodeplcoaaGreat.Sym
