/- Lemmas for the statements of this seat. -/
import Derived.Test.YtneklnlpgfeplaaGreatW27
import Derived.Deep.Slices
import Derived.WideKeyArgs
import Derived.RowKit3
import Derived.WalkKit
import Derived.ProofKit
import Derived.OpenShut
import Derived.SizedLaws
import Derived.Test.YtneklnlpgfeplaaGreatT0
import Derived.Test.YtneklnlpgfeplaaGreatP0
namespace Go.Proofs.YtneklnlpgfeplaaGreat.Sym
open Go Go.RowKit Go.ChangeShapes Go.WideShapes
set_option linter.unusedVariables false
abbrev Old(w:World)(b:Nat):Prop:=b<w.heap.size
def mc(P:Program)(t:TypeId){α:Type}(f:α→List PV)(Q:α→Prop):Prop :=
 ∀{H:Type} (enc:TypeId×Value→H) (w:World) (base:Nat) (spare:Nat→Bool) (held:Bool) (fuel:Nat) (cs:List Value) (x:DataW H×List MemPlace),
  DataW.trod enc P w base spare held fuel t cs=some x→(∀n∈x.1.weights P t,n≤reachBytes)→∃a,bO (Old w) w (f a) cs∧Q a
theorem cO{I:Nat→Prop}{w:World}{a b:List PV}{us vs:List Value}(h:bO I w a us)(k:bO I w b vs):bO I w (a++b) (us++vs):=by
 refine⟨by rw[acr,acr,h.1,k.1],fun j c u hc hu => ?_⟩;by_cases hj:j<a.length
 ·rw[ad9 hj] at hc;rw[ad9 (by rw[←h.1];exact hj)] at hu;exact h.2 j c u hc hu
 ·rw[acS (by omega)] at hc;rw[acS (by rw[←h.1];omega)] at hu;rw[h.1] at hc;exact k.2 _ c u hc hu
theorem ir{I:Nat→Prop}{w:World}{p:PV}{v:Value}(h1:p.one=true)(h:Rd I w p v):bO I w [p] [v]:=by
 refine⟨rfl,fun j c u hc hu => ?_⟩;cases j with
 |zero=>simp at hc hu;subst hc hu;exact⟨h1,h⟩
 |succ j=>simp at hc
theorem xJ{P:Program}{t:TypeId}{k:IntKind}(ht:P.underlying t=some (.int k)):mc P t (fun n:Int=>[.int k n]) (fun n=>(Lit.int k n).wf=true):=by intro H enc w base spare held fuel cs x h _;obtain⟨n,rfl,_,hw⟩:=DataW.trod_int ht h;exact⟨n,ir rfl (.int _ _),hw⟩
theorem Bj{P:Program}{t:TypeId}(ht:P.underlying t=some .bool):mc P t (fun b:Bool=>[.bool b]) (fun _=>True):=by intro H enc w base spare held fuel cs x h _;obtain⟨b,rfl,_⟩:=DataW.trod_bool ht h;exact⟨b,ir rfl (.bool _),trivial⟩
theorem Fy{w:World}{a:Addr}{v:Value}(h:w.cell? a=some v):a.spot=none∧a.block<w.heap.size:=by
 unfold World.cell? at h;split at h
 ·rename_i c q r hc;refine⟨?_,(ach.1 hc).1⟩;cases hs:a.spot with
  |none=>rfl
  |some _=>rw[hs] at h;simp at h
 ·cases h
theorem w5(a:Addr):a.add 0=a:=rfl
theorem uh(b o i:Nat):(⟨b,o,none⟩:Addr).add i=⟨b,o+i,none⟩:=by
 unfold Addr.add;split
 ·rename_i h;subst h;rfl
 ·rfl
theorem pY{H:Type}{P:Program}{e:TypeId} : ∀{l:List (DataW H)} {d:DataW H} {n:Nat},d∈l→n∈d.weights P e→n∈DataW.weightsAll P e l
 |a::r,d,n,hd,hn=>by
  simp only[DataW.weightsAll,List.mem_append];rcases ac0.1 hd with h|h
  ·subst h;exact Or.inl hn
  ·exact Or.inr (pY h hn)
theorem tQ{P:Program}{t e:TypeId}{α:Type}{f:α→List PV}{Q:α→Prop}{s sb:Nat}(ht:P.underlying t=some (.slice e))(hs:P.cellsOf e=s)(Mq:0<s)(Wy:P.bytesOf e=sb)(hf:∀a,(f a).length=s)(ho:mc P e f Q) :
  mc P t (fun l:List α=>[.list (l.map f)]) (fun l=>l.length*sb≤reachBytes∧∀a∈l,Q a):=by
 intro H enc w base spare held fuel cs x h ou;rcases Deep.open_slice ht h with ⟨rfl,_⟩|⟨a,len,cap,m,n,D,Pl,rfl,hb,hl,hm,Wz,Jy,hx⟩
 ·exact⟨[],ir rfl (.nil _ _),by simp,by simp⟩
 rw[hs] at hx;have Qt:len≤m:=by rw[Wz];split<;>omega
 have uJ:∀i,i<len→∃(y:α×List Value),w.cells? base (a.add (i*s)) s=some y.2∧bO (Old w) w (f y.1) y.2∧Q y.1:=by
  intro i hi;obtain⟨Ez,h1,h2⟩:=hx i (by omega);obtain⟨y,h3,h4⟩:=ho enc w base spare held n Ez _ h2 (fun q hq=>ou q (by rw[Jy];simp only[DataW.weights,ht,List.mem_cons,List.mem_append];exact Or.inr (Or.inl (pY (aca.2 ⟨i,adf.2 hi,rfl⟩) hq))))
  exact⟨(y,Ez),h1,h3,h4⟩
 by_cases h0:len=0
 ·subst h0;exact⟨[],ir rfl (.nil _ _),by simp,by simp⟩
 have nZ:Nonempty (α×List Value):=⟨(uJ 0 (by omega)).choose⟩;have:Inhabited (α×List Value):=Classical.inhabited_of_nonempty nZ;obtain⟨Y,hY⟩:=Deep.choose_lt uJ;obtain⟨c0,_⟩:=hY 0 (by omega);obtain⟨_,cl0,WB⟩:=aet c0;have cg:=WB 0 Mq;obtain⟨v0,SY⟩:∃v,(Y 0).2[0]? = some v:=⟨_,abJ (by omega)⟩;rw[SY] at cg;rw[afd,w5,w5] at cg;obtain⟨FY,OK⟩:=Fy cg;obtain⟨b,o,sp⟩:=a;simp only at FY OK;subst FY;have Fz:∀i j:Nat,i<len→j<s→w.cell? ⟨b,o+(i*s+j),none⟩=(Y i).2[j]? := by intro i j hi hj;obtain⟨c1,_⟩:=hY i hi;obtain⟨_,_,g⟩:=aet c1;have:=g j hj;rw[uh,uh,ael] at this;exact this
 refine⟨(List.range len).map (fun i=>(Y i).1),ir rfl ?_,?_,?_⟩
 ·have e:len=(((List.range len).map (fun i=>(Y i).1)).map f).length:=by simp
  have wg:∀(i:Nat) row,(((List.range len).map (fun i=>(Y i).1)).map f)[i]? = some row→i<len∧row=f (Y i).1:=by
   intro i row hr;have hi:i<len:=by have:=(abL.1 hr).1;rw[←e] at this;exact this
   refine⟨hi,?_⟩;simp[List.getElem?_map,List.getElem?_range hi] at hr;exact hr.symm
  have key:Rd (Old w) w (.list (((List.range len).map (fun i=>(Y i).1)).map f)) (.slice (some ⟨b,o,none⟩) (((List.range len).map (fun i=>(Y i).1)).map f).length cap):=by
   refine Rd.list _ b o cap s (fun i j=>((Y i).2[j]?).getD .nilIface) (by rw[←e];exact hl) OK ?_ ?_ ?_
   ·intro i row hr;obtain⟨_,rfl⟩:=wg i row hr;exact hf _
   ·intro i j row x hr EX;obtain⟨hi,rfl⟩:=wg i row hr;obtain⟨c1,r1,_⟩:=hY i hi;have hj:j<s:=by rw[←hf (Y i).1];exact(abL.1 EX).1
    have hlen:=r1.1;obtain⟨u,hu⟩:∃u,(Y i).2[j]? = some u:=⟨_,abJ (by rw[←hlen,hf];exact hj)⟩;refine⟨(r1.2 j x u EX hu).1,?_⟩;rw[Fz i j hi hj,hu];rfl
   ·intro i j row x hr EX;obtain⟨hi,rfl⟩:=wg i row hr;obtain⟨c1,r1,_⟩:=hY i hi;have hj:j<s:=by rw[←hf (Y i).1];exact(abL.1 EX).1
    have hlen:=r1.1;obtain⟨u,hu⟩:∃u,(Y i).2[j]? = some u:=⟨_,abJ (by rw[←hlen,hf];exact hj)⟩;rw[hu];exact(r1.2 j x u EX hu).2
  rw[←e] at key;exact key
 ·have:=ou ((len+(m-len))*sb) (by
   rw[Jy];simp only[DataW.weights,ht,Wy,List.length_map,List.length_range,List.mem_cons,true_or])
  rw[abS,adC];exact abZ (ac9 _ (by omega)) this
 ·intro y hy;obtain⟨i,hi,rfl⟩:=aca.1 hy;exact(hY i (adf.1 hi)).2.2
theorem j9{P:Program}{t:TypeId}{fs:Array Field}(ht:P.underlying t=some (.struct fs)){H:Type}{enc:TypeId×Value→H}{w:World}{base:Nat}{spare:Nat→Bool}{held:Bool}{fuel:Nat}{cs:List Value}{x:DataW H×List MemPlace}
  (h:DataW.trod enc P w base spare held fuel t cs=some x):cs.length=P.cellsOf t:=(af5 ht h).choose_spec.choose_spec.2.2.1
theorem dA{P:Program}{t u:TypeId}{fs:Array Field}{α:Type}{f:α→List PV}{Q:α→Prop}(ht:P.underlying t=some (.struct fs)){H:Type}{enc:TypeId×Value→H}{w:World}{base:Nat}{spare:Nat→Bool}{held:Bool}{fuel:Nat}{cs:List Value}{x:DataW H×List MemPlace}
  (h:DataW.trod enc P w base spare held fuel t cs=some x) (ou:∀n∈x.1.weights P t,n≤reachBytes) (i off s:Nat) (hi:(fs[i]?).map (fun f=>(f.type,f.offset))=some (u,off)) (hs:P.cellsOf u=s) (ho:mc P u f Q):∃a,bO (Old w) w (f a) ((cs.drop off).take s)∧Q a:=by
 obtain⟨xs,n,_,hx,hl,hlen,hf⟩:=af5 ht h;cases hfi:fs[i]? with
 |none=>rw[hfi] at hi;cases hi
 |some fd =>
  rw[hfi] at hi;injection hi with hi
  injection hi with e1 e2
  have h1:=hf i fd hfi;have h2:i<xs.length:=by rw[hlen];exact(ach.1 hfi).1
  rw[abJ h2,e1,e2,hs] at h1;refine ho enc w base spare held n _ _ h1 (fun q hq=>ou q ?_);rw[hx];simp only[DataW.weights,ht];refine DataW.weights_mem_each (j:=i) (t:=u) (d:=xs[i].1) ?_ ?_ q hq
  ·rw[abR,acB,hfi];exact aeI some e1
  ·rw[abR,abJ h2];rfl
def ph:Option TypeDesc→Option (List (TypeId×Nat))
 |some (.struct fs)=>some (fs.toList.map fun f=>(f.type,f.offset))
 |_=>none
theorem kc{u:Option TypeDesc}{l:List (TypeId×Nat)}(h:ph u=some l):∃fs,u=some (.struct fs)∧∀i:Nat,(fs[i]?).map (fun f=>(f.type,f.offset))=l[i]? := by
 unfold ph at h;split at h
 ·rename_i fs;injection h with h
  refine⟨fs,rfl,fun i => ?_⟩;rw[←h,abR,acB]
 ·cases h
theorem xK{P:Program}{t:TypeId}{fs:Array Field}{w:World}{r:Reach}{b0:Nat}{v:Value}{cs:List PV}(ht:P.underlying t=some (.struct fs))(hv:Value.okWide P w r b0 t v)(h:bO (Old w) w cs v.cells.toList):Rd (Old w) w (.agg cs) v:=by obtain⟨us,rfl,_⟩:=okWide_struct ht hv;have h:bO (Old w) w cs us.toList:=h;refine .agg cs us (by rw[h.1];simp) (fun j c hc => ?_) (fun j c u hc hu=>(h.2 j c u hc (by simpa using hu)).2);obtain⟨u,hu⟩:∃u,us.toList[j]? = some u:=⟨_,abJ (by rw[←h.1];exact(abL.1 hc).1)⟩;exact(h.2 j c u hc hu).1
theorem Hj{w w':World}{may:MemPlace→Prop}(h:gV (fun _=>False) w w'):w.keptBut w' may:=by
 refine⟨h.os,h.output,fun i hi => ?_⟩;have e:=h.block i hi (fun h=>h);rw[e];cases w.heap[i]? with
 |none=>rfl
 |some o=>cases o<;>simp
theorem DZ{w w':World}(h:gV (fun _=>False) w w'){a:Addr}(ha:a.block<w.heap.size):w'.frozen? a=w.frozen? a:=by have e:=h.block _ ha (fun h=>h);unfold World.frozen?;rw[e]
theorem Hk{w w':World}(h:gV (fun _=>False) w w'){p:MemPlace}(hp:p.block<w.heap.size):w.sameAt w' p:=by
 cases p with
 |cell b off =>have e:=h.block b hp (fun h=>h);show w'.cell? _=w.cell? _;simp[World.cell?,e]
 |map b=>exact h.block b hp (fun h=>h)
section
variable {H:Type} {enc:TypeId×Value→H} {P:Program}
theorem Jd{f:Func}{s:ChangeSpec}{apart fresh handsOn again:Bool}{W W':World}{args:Array Value}{ds gs:List (DataW H)}{before:List MemPlace}{tb:TypeId}
  (hW:DataW.Whole enc P f.params.toList s.vars apart W args.toList ds gs before) (hk:gV (fun _=>False) W W')
  (OM:s.vars=[]) (YG:f.resultTypes = #[tb]) (YH:P.underlying tb=some .bool)
  (mq:(s.fn H (ds++gs)).results=[.lit (.bool true)]) (il:(s.fn H (ds++gs)).args=ds) (UH:(s.fn H (ds++gs)).vars=[])
  (hl:laidOutB P=true) (hr:∀t∈f.params.toList,P.readableRec t=true∧t<P.types.size):s.post enc P f apart fresh handsOn again W args (.bool true) W':=by
 have cT:=hW.lt;obtain⟨p,q,hA,hV,Mu,hz,hn⟩:=hW;have hW:DataW.Whole enc P f.params.toList s.vars apart W args.toList ds gs before:=⟨p,q,hA,hV,Mu,hz,hn⟩;rw[OM] at hV;obtain⟨Nr,MU⟩:=trodVars_none hV;subst MU;have UI:before=p:=by rw[Mu];simp
 have Qu:∀(sp:Nat→Bool),(∀x∈before,sp x.block=true)→DataW.TrodAll enc P W' 0 sp true f.params.toList args.toList ds p:=by
  intro sp FY;have key:∀{ts:List TypeId} {vs:List Value} {es:List (DataW H)} {ps:List MemPlace},(∀t∈ts,P.readableRec t=true∧t<P.types.size)→(∀x∈ps,x∈before)→DataW.TrodAll enc P W 0 (fun _=>true) true ts vs es ps→DataW.TrodAll enc P W' 0 sp true ts vs es ps:=by
   intro ts
   induction ts with
   |nil =>intro vs es ps _ _ h;obtain⟨rfl,rfl,rfl⟩:=trodAll_nil h;exact trodAll_mk0
   |cons t ts ih =>intro vs es ps WE lB h;obtain⟨v,Yr,d,ds',a,b,rfl,rfl,rfl,h1,h2⟩:=trodAll_cons h;refine⟨a,b,WideElems.Trod_stays hl (WE t (acO ..)).1 (WE t (acO ..)).2 h1 (fun x hx=>Hk hk (cT x (lB x (acH _ hx)))) (fun x hx=>FY x (lB x (acH _ hx))),ih (fun u hu=>WE u (acA _ hu)) (fun x hx=>lB x (acD _ hx)) h2,rfl⟩
  exact key hr (fun x hx=>by rw[UI];exact hx) hA
 have hold:∀x∈before,(fun b=>decide (b<W.heap.size)) x.block=true:=fun x hx=>by simpa using cT x hx
 have H3:∀(b:Nat) (sp:Nat→Bool) (hd:Bool),DataW.TrodAll enc P W' b sp hd f.resultTypes.toList ((Value.bool true).resultList f.resultTypes.size) (s.fn H (ds++gs)).results []:=by intro b sp hd;rw[YG,mq];exact trodAll_mk1 (shut_bool YH true)
 have wv:∀sp:Nat→Bool,DataW.TrodVars enc P W' sp s.vars (s.fn H (ds++gs)).vars []:=by intro sp;rw[OM,UH];rfl
 have K6:∀(sp:Nat→Bool),(∀x∈before,sp x.block=true)→DataW.TrodAll enc P W' 0 sp true f.params.toList args.toList (s.fn H (ds++gs)).args p:=by intro sp FY;rw[il];exact Qu sp FY
 refine⟨ds,gs,before,[],p,[],hW,H3 _ _ _,K6 _ hold,wv _,Hj hk,fun _ => ?_⟩;refine⟨ok_one YG rfl (okWide_bool_mk YH true),_,_,([]++p)++[],⟨[]++p,[],trodAll_append (K6 _ (fun _ _=>rfl)) (H3 _ _ _),wv _,rfl,?_,?_⟩,?_⟩
 ·intro b off hp;have FA:MemPlace.cell b off∈before:=by rw[UI];simpa using hp
  rw[DZ hk (cT _ FA)];exact hz b off FA
 ·intro ha;have:=hn ha;rw[UI] at this;simpa using this
 ·intro x hx _;rw[UI];simpa using hx
end
end Go.Proofs.YtneklnlpgfeplaaGreat.Sym
namespace Go.Proofs.YtneklnlpgfeplaaGreat.Sym
open Go Go.RowKit Go.ChangeShapes Go.WideShapes
set_option linter.unusedVariables false
theorem Ns{n:Int}(h:(Lit.int .u32 n).wf=true):∃v:UInt32,(v.toNat:Int)=n:=by
 have h:(0≤n∧n≤4294967295):=by simpa[Lit.wf,IntKind.min,IntKind.max,IntKind.signed,IntKind.bits] using h
 refine⟨UInt32.ofNat n.toNat,?_⟩;rw[show (UInt32.ofNat n.toNat).toNat=n.toNat from by simp;omega];omega
theorem Hl:mc aV 155 aE (fun _=>True):=by intro H enc w base spare held fuel cs x h ou;obtain⟨n,h1,h2⟩:=xJ (k := .u32) (show aV.underlying 155=some (.int .u32) by kernel_rfl) enc w base spare held fuel cs x h ou;obtain⟨v,rfl⟩:=Ns h2;exact⟨v,h1,trivial⟩
theorem yA:mc aV 27 (fun l:Words=>[af l]) (fun l=>l.length*4≤reachBytes):=by intro H enc w base spare held fuel cs x h ou;obtain⟨l,h1,h2,_⟩:=tQ (s:=1) (show aV.underlying 27=some (.slice 155) by kernel_rfl) (by kernel_rfl) (by omega) (sb:=4) (by kernel_rfl) (fun _=>rfl) Hl enc w base spare held fuel cs x h ou;exact⟨l,h1,h2⟩
theorem K7{α:Type}(cs:List α)(a b c:Nat)(h:cs.length=a+b+c):cs=(cs.drop 0).take a++((cs.drop a).take b++(cs.drop (a+b)).take c):=by
 have e:(cs.drop (a+b)).take c=cs.drop (a+b):=acd (by rw[aed];omega);have h1:(cs.drop a).take b++cs.drop (a+b)=cs.drop a:=by have:=ad1 b (cs.drop a);rwa[aex] at this
 rw[e,h1,adg,ad1]
def SZ(a:aq):Prop:=a.num.length*4≤reachBytes∧a.den.length*4≤reachBytes
theorem vE:mc aV 29 aq.cells SZ:=by intro H enc w base spare held fuel cs x h ou;obtain⟨fs,hu,e⟩:=kc (show ph (aV.underlying 29)=some [(4,0),(27,1),(27,2)] by kernel_rfl);have hl:=j9 hu h;have hl:cs.length=1+1+1:=hl.trans (by kernel_rfl);obtain⟨b,r0,_⟩:=dA hu h ou 0 0 1 (e 0) (by kernel_rfl) (Bj (show aV.underlying 4=some .bool by kernel_rfl));obtain⟨n,r1,q1⟩:=dA hu h ou 1 1 1 (e 1) (by kernel_rfl) yA;obtain⟨d,r2,q2⟩:=dA hu h ou 2 2 1 (e 2) (by kernel_rfl) yA;refine⟨⟨b,n,d⟩,?_,q1,q2⟩;rw[K7 cs 1 1 1 hl];exact cO r0 (cO r1 r2)
theorem Hm{α:Type}(cs:List α)(a b:Nat)(h:cs.length=a+b):cs=(cs.drop 0).take a++(cs.drop a).take b:=by have e:(cs.drop a).take b=cs.drop a:=acd (by rw[aed];omega);rw[e,adg,ad1]
theorem Bk:reachBytes<140737488355328:=by decide
end Go.Proofs.YtneklnlpgfeplaaGreat.Sym
namespace Go.Proofs.YtneklnlpgfeplaaGreat.Sym
def nat:Words→Nat
 |[]=>0
 |w::r=>w.toNat+4294967296*nat r
def rR:Nat→Nat→Words
 |0,_=>[]
 |f+1,n=>bif Nat.beq n 0 then [] else UInt32.ofNat n::rR f (n/4294967296)
def words(n:Nat):Words:=rR n n
theorem lj(w:UInt32):w.toNat<4294967296:=w.toNat_lt
theorem w6(n:Nat):(UInt32.ofNat n).toNat=n%4294967296:=by simp
theorem S1{a b:UInt32}(h:a.toNat=b.toNat):a=b:=UInt32.toNat_inj.1 h
theorem WG{n:Nat}(h:n<4294967296):(UInt32.ofNat n).toNat=n:=by rw[w6];exact acg h
theorem kd(n:Nat)(h:n<4294967296):∃w:UInt32,w.toNat=n:=⟨UInt32.ofNat n,WG h⟩
theorem vF : ∀ (f n : Nat), n ≤ f → nat (rR f n) = n
  | 0, n, h => by have : n = 0 := by omega
                  subst this; rfl
  | f + 1, n, h => by
    unfold rR;by_cases h0 : n = 0
    · subst h0; rfl
    · have : Nat.beq n 0 = false := by
        cases hb : Nat.beq n 0 with
        | true => exact absurd (abO hb) h0
        | false => rfl
      rw [this];show (UInt32.ofNat n).toNat + 4294967296 * nat (rR f (n / 4294967296)) = n;rw [vF f (n / 4294967296) (by omega), w6];omega
theorem aO(n:Nat):nat (words n)=n:=vF n n (abW n)
def cn:Words→Bool
 |[]=>true
 |[w]=>w.toNat != 0
 |_::w::r=>cn (w::r)
theorem D0{w:UInt32}{r:Words}(h:cn (w::r)=true):cn r=true:=by
 cases r with
 |nil=>rfl
 |cons v r=>exact h
theorem qt:∀{l:Words},cn l=true→l≠[]→0<nat l
 |[],_,h=>absurd rfl h
 |[w],h,_=>by simp[cn] at h;show 0<w.toNat+4294967296*0;omega
 |w::v::r,h,_=>by have:=qt (l:=v::r) h (by simp);show 0<w.toNat+4294967296*nat (v::r);omega
theorem K8:∀{a b:Words},cn a=true→cn b=true→nat a=nat b→a=b
 |[],[],_,_,_=>rfl
 |[],w::r,_,hb,h=>by have:=qt hb (by simp);have h0:nat []=0:=rfl;omega
 |w::r,[],ha,_,h=>by have:=qt ha (by simp);have h0:nat []=0:=rfl;omega
 |w::r,v::s,ha,hb,h=>by
  have h:w.toNat+4294967296*nat r=v.toNat+4294967296*nat s:=h;have h1:=lj w;have h2:=lj v;have h3:w.toNat=v.toNat:=by omega
  have h4:nat r=nat s:=by omega
  rw[S1 h3,K8 (D0 ha) (D0 hb) h4]
theorem CY:∀(f n:Nat),n≤f→cn (rR f n)=true
 |0,n,_=>rfl
 |f+1,n,h=>by
  unfold rR;by_cases h0:n=0
  ·subst h0;rfl
  ·have:Nat.beq n 0=false:=by
    cases hb:Nat.beq n 0 with
    |true=>exact absurd (abO hb) h0
    |false=>rfl
   rw[this];show cn (UInt32.ofNat n::rR f (n/4294967296))=true;have ih:=CY f (n/4294967296) (by omega);have hn:=vF f (n/4294967296) (by omega);cases hr:rR f (n/4294967296) with
   |nil =>
    rw[hr] at hn;have hn:0=n/4294967296:=hn;show((UInt32.ofNat n).toNat != 0)=true;rw[w6];have:n%4294967296≠0:=by omega
    simpa using this
   |cons v r=>rw[hr] at ih;exact ih
theorem iX(n:Nat):cn (words n)=true:=CY n n (abW n)
theorem tS{l:Words}{n:Nat}(hc:cn l=true)(h:nat l=n):words n=l:=K8 (iX n) hc (by rw[aO,h])
theorem eH{l:Words}(hc:cn l=true):words (nat l)=l:=tS hc rfl
theorem fw:words 0=[]:=rfl
theorem ui{n:Nat} : words n=[]↔n=0:=by
 constructor
 ·intro h;rw[←aO n,h];rfl
 ·intro h;subst h;rfl
theorem dm{n:Nat} : (words n).length=0↔n=0:=by rw[List.length_eq_zero_iff,ui]
theorem ez:∀l:Words,nat l<4294967296^l.length
 |[]=>by simp[nat]
 |w::r=>by have h1:=ez r;have h2:=lj w;show w.toNat+4294967296*nat r<4294967296^(r.length+1);rw[acb];omega
theorem mU:∀a b:Words,nat (a++b)=nat a+4294967296^a.length*nat b
 |[],b=>by simp[nat]
 |w::r,b=>by show w.toNat+4294967296*nat (r++b)=w.toNat+4294967296*nat r+4294967296^(r.length+1)*nat b;rw[mU r b,acb,ac6,←ace,acu 4294967296 (4294967296^r.length)];omega
theorem jg(l:Words)(k:Nat)(h:k≤l.length):nat l=nat (l.take k)+4294967296^k*nat (l.drop k):=by
 conv=>lhs;rw[←ad1 k l]
 rw[mU,ac8,acQ h]
theorem cH{l:Words}{k:Nat}{v:UInt32}(h:l[k]? = some v):nat (l.take (k+1))=nat (l.take k)+4294967296^k*v.toNat:=by have hk:k<l.length:=(abL.1 h).1;rw[ado,h];show nat (l.take k++[v])=_;rw[mU,ac8,acQ (aeT hk)];simp[nat]
theorem qQ{l:Words}{k:Nat}{v:UInt32}(h:l[k]? = some v):nat (l.drop k)=v.toNat+4294967296*nat (l.drop (k+1)):=by
 have hk:k<l.length:=(abL.1 h).1;have hv:l[k]=v:=by have:=abJ hk;rw[h] at this;injection this with this;exact this.symm
 rw[acx hk,hv];rfl
theorem xL:∀n:Nat,nat (List.replicate n 0)=0
 |0=>rfl
 |n+1=>by show(0:UInt32).toNat+4294967296*nat (List.replicate n 0)=0;rw[xL n];rfl
theorem w7:∀(l:Words) (k:Nat) (v u:UInt32),l[k]? = some u→nat (l.set k v)+4294967296^k*u.toNat=nat l+4294967296^k*v.toNat
 |[],k,v,u,h=>by simp at h
 |w::r,0,v,u,h=>by simp at h;subst h;show v.toNat+4294967296*nat r+4294967296^0*w.toNat=w.toNat+4294967296*nat r+4294967296^0*v.toNat;omega
 |w::r,k+1,v,u,h=>by have ih:=w7 r k v u (by simpa using h);show w.toNat+4294967296*nat (r.set k v)+4294967296^(k+1)*u.toNat=w.toNat+4294967296*nat r+4294967296^(k+1)*v.toNat;rw[acb,acu (4294967296^k) 4294967296,ace,ace];omega
theorem iK{l:Words}{k:Nat}{v:UInt32}(h:k<l.length):nat ((l.set k v).take (k+1))=nat (l.take k)+4294967296^k*v.toNat:=by rw[cH (v:=v) (by simp[h]),List.take_set_of_le (abW k)]
theorem bA{l:Words}{k:Nat}(h:l.length≤k):nat (l.take k)=nat l:=by rw[acd h]
theorem kZ{n k:Nat}(h:n<4294967296^k):(words n).length≤k:=by
 have key:∀(l:Words),cn l=true→∀k,nat l<4294967296^k→l.length≤k:=by
  intro l
  induction l with
  |nil=>intro _ k _;simp
  |cons w r ih =>
   intro hc k hk;have hp:=qt hc (by simp);cases k with
   |zero=>simp at hk;omega
   |succ k =>have h1:w.toNat+4294967296*nat r<4294967296^(k+1):=hk;rw[acb] at h1;have:=ih (D0 hc) k (by omega);simp;omega
 exact key _ (iX n) k (by rw[aO];exact h)
theorem hX(n:Nat):n<4294967296^(words n).length:=by have:=ez (words n);rwa[aO] at this
theorem jr{a b:Nat}(h:a≤b):4294967296^a≤4294967296^b:=ad8 (by omega) h
theorem dg{m n:Nat}(h:m≤n):(words m).length≤(words n).length:=kZ (adx h (hX n))
theorem rS(l:Words):(words (nat l)).length≤l.length:=kZ (ez l)
theorem FB{l:Words}(hc:cn l=true)(nZ:l≠[]):4294967296^(l.length-1)≤nat l:=by
 refine Nat.le_of_not_lt fun h => ?_
 have h1:=kZ h;rw[eH hc] at h1;have:0<l.length:=aee.2 nZ;omega
theorem me:∀{l:Words} {v:UInt32},l[l.length-1]? = some v→(cn l=true↔v.toNat≠0)
 |[],v,h=>by simp at h
 |[w],v,h=>by simp at h;subst h;simp[cn]
 |w::u::r,v,h=>by
  have h':(u::r)[(u::r).length-1]? = some v:=by simp only[List.length_cons,Nat.add_sub_cancel] at h ⊢;rw[show r.length+1=(r.length)+1 from rfl,adh] at h;exact h
  exact me (l:=u::r) h'
open Go Path
abbrev Fit(l:Words):Prop:=l.length≤1099511627776
def aR.valid(a:aR):Bool:=bif a.db.isEmpty then !a.neg else cn a.db
def aR.val(a:aR):Int:=bif a.valid then (bif a.neg then -(nat a.db:Int) else (nat a.db:Int)) else 0
def whole(i:Int):aR:=⟨decide (i<0),words i.natAbs⟩
theorem bB(i:Int):(whole i).val=i:=by
 unfold aR.val aR.valid whole;simp only[aO];by_cases h:i=0
 ·subst h;rfl
 ·have h1:(words i.natAbs).isEmpty=false:=by
   rw[af0];intro e;rw[ui] at e;omega
  rw[h1];simp only[cond_false,iX,cond_true];by_cases h2:i<0
  ·simp[h2];omega
  ·simp[h2];omega
theorem cP{l:Words} : l.isEmpty=decide (l.length=0):=by cases l<;>simp
namespace eJ
theorem Valid(a:aR)(h:Fit a.db):Cp 61 [a.pv] (vB a.valid):=by
 unfold aR.valid;rw[cP];by_cases h0:a.db.length=0
 ·simp only[h0,decide_true,cond_true];exact qn.e0 a h0
 ·simp only[h0,decide_false,cond_false];obtain⟨v,hv⟩:∃v,a.db[a.db.length-1]? = some v:=⟨_,abJ (by omega)⟩;have:=qn.e1 a (a.db.length-1) v h0 (by unfold bf;omega) (by omega) hv;have e:cn a.db=((v.toNat:Int) != 0):=by
   have h1:=me hv;by_cases h2:v.toNat=0
   ·have h3:((v.toNat:Int) != 0)=false:=by simp[h2]
    rw[h3];cases hc:cn a.db with
    |true=>exact absurd h2 (h1.1 hc)
    |false=>rfl
   ·have h3:((v.toNat:Int) != 0)=true:=by simp;omega
    rw[h3];exact h1.2 h2
  rw[e];exact this
theorem w8(a:aR):decide (a.val<0)=(a.valid&&a.neg):=by
 unfold aR.val;cases hv:a.valid with
 |false=>simp
 |true =>
  cases hn:a.neg with
  |false=>simp
  |true =>
   simp only[cond_true,Bool.and_true];unfold aR.valid at hv;have:0<nat a.db:=by
    cases he:a.db.isEmpty with
    |true=>rw[he,hn] at hv;cases hv
    |false =>rw[he] at hv;exact qt hv (by rw[←af0];exact he)
   simp;omega
theorem zF(a:aR):words a.val.natAbs=bif a.valid then a.db else []:=by
 unfold aR.val;cases hv:a.valid with
 |false=>rfl
 |true =>
  have hc:cn a.db=true:=by
   unfold aR.valid at hv;cases he:a.db.isEmpty with
   |true=>rw[List.isEmpty_iff] at he;rw[he];rfl
   |false=>rw[he] at hv;exact hv
  cases hn:a.neg with
  |false=>simp only[cond_true,cond_false,Int.natAbs_natCast];exact eH hc
  |true=>simp only[cond_true,Int.natAbs_neg,Int.natAbs_natCast];exact eH hc
theorem db(a:aR)(h:Fit a.db):Cp 64 [a.pv] (af (words a.val.natAbs)):=by
 rw[zF];cases hv:a.valid with
 |false=>exact tv.e0 a a.valid (Valid a h) hv
 |true=>exact tv.e1 a a.valid (Valid a h) hv
theorem neg(a:aR)(h:Fit a.db):Cp 65 [a.pv] (vB (decide (a.val<0))):=by
 rw[w8];cases hv:a.valid with
 |false=>exact tx.e1 a a.valid (Valid a h) hv
 |true=>rw[acZ];exact tx.e0 a a.valid (Valid a h) hv
theorem trim(m:Words)(h:m.length≤35184372088832):Cp 107 [af m] (af (words (nat m))):=by
 have loop:∀n:Nat,n≤m.length→nat (m.take n)=nat m→jZ.ay m (n:Int) (af (words (nat m))):=by
  intro n
  induction n with
  |zero =>
   intro _ h2;have:nat m=0:=by rw[←h2];rfl
   rw[this,fw];exact jZ.ym m _ (by omega) rfl
  |succ n ih =>
   intro h1 h2;obtain⟨v,hv⟩:∃v,m[n]? = some v:=⟨_,abJ (by omega)⟩;by_cases h0:v.toNat=0
   ·refine jZ.eu m _ n v (by omega) (by unfold bf;omega) (by omega) hv h0 ?_;rw[show ((n+1:Nat):Int)-1=(n:Int) from by omega];refine ih (by omega) ?_;rw[cH hv,h0] at h2;simpa using h2
   ·have:=jZ.im m ((n+1:Nat):Int) n v (n+1) (by omega) (by unfold bf;omega) (by omega) hv h0 (by omega) rfl h1 (by simp;omega);have e:words (nat m)=m.take (n+1):=by
     refine tS ?_ h2;refine(me (v:=v) ?_).2 h0;rw[ac8,acQ h1,aeU,ack,ac7 (by omega)];exact hv
    rw[e];exact this
 exact jZ.e0 m (loop m.length (abW _) (bA (abW _)))
theorem whole(neg:Bool)(m:Words)(h:m.length≤35184372088832):Cp 66 [vB neg,af m] (whole (bif neg then -(nat m:Int) else (nat m:Int))).pv:=by
 cases neg with
 |false =>
  have:=qo.e1 false m _ (trim m h) rfl;have e:decide ((nat m:Int)<0)=false:=by simp
  simp only[Sym.whole,cond_false,e,Int.natAbs_natCast];exact this
 |true =>
  have:=qo.e0 true m _ (trim m h) rfl;have e:decide (((words (nat m)).length:Int)>0)=decide (-(nat m:Int)<0):=by
   have:=dm (n:=nat m);by_cases h0:nat m=0
   ·have h1:=this.2 h0;simp[h0,fw]
   ·have h1:¬(words (nat m)).length=0:=fun h=>h0 (this.1 h)
    rw[acf (by omega),acf (by omega)]
  rw[e] at this;simpa[Sym.whole] using this
def wd(m:Words)(i:Nat):Nat:=match m[i]? with
 |some w=>w.toNat
 |none=>0
theorem jQ(m:Words)(i:Nat):wd m i<4294967296:=by
 unfold wd;cases m[i]? with
 |none=>simp
 |some w=>exact lj w
theorem ov{m:Words}{i:Nat}{v:UInt32}(h:m[i]? = some v):wd m i=v.toNat:=by unfold wd;rw[h]
theorem ni{m:Words}{i:Nat}(h:m.length≤i):wd m i=0:=by unfold wd;rw[aez h]
theorem dR(m:Words)(k:Nat):nat (m.take (k+1))=nat (m.take k)+4294967296^k*wd m k:=by
 by_cases h:k<m.length
 ·have hv:=abJ h;rw[cH hv,ov hv]
 ·rw[bA (by omega),bA (by omega),ni (by omega)];omega
theorem word(m:Words)(i:Nat):Cp 151 [af m,vI (i:Int)] (vU (wd m i)):=by
 unfold wd;cases h:m[i]? with
 |none =>have:=aeb.1 h;exact rJ.e1 m i (by omega)
 |some v =>have:=(abL.1 h).1;exact rJ.e0 m i i v (by omega) rfl h
theorem plus(a b:Words)(ha:a.length≤2199023255552)(hb:b.length≤2199023255552):Cp 110 [af a,af b] (af (words (nat a+nat b))):=by
 have hm:max a.length b.length≤2199023255552:=by omega
 have loop:∀(j t carry:Nat) (site:Words),max a.length b.length+1-t=j→t≤max a.length b.length+1→site.length=max a.length b.length+1→carry≤1 →
   nat (site.take t)+4294967296^t*carry=nat (a.take t)+nat (b.take t)→lP.ay a b carry t site (af (words (nat a+nat b))):=by
  intro j
  induction j with
  |zero =>
   intro t carry site hj ht hs hc hinv;have zv:t=max a.length b.length+1:=by omega
   have Bl:nat site=nat a+nat b:=by
    rw[bA (by omega),bA (by omega),bA (by omega)] at hinv;have h1:=ez a;have h2:=ez b;have h3:=jr (show a.length≤t-1 by omega);have h4:=jr (show b.length≤t-1 by omega);have h5:(4294967296:Nat)^t=4294967296^(t-1)*4294967296:=by rw[←acb];congr 1;omega
    have Qv:carry=0:=by
     cases carry with
     |zero=>rfl
     |succ c =>have h6:4294967296^t*1≤4294967296^t*(c+1):=ac2 _ (by omega);omega
    subst Qv;simpa using hinv
   have:=lP.dp a b carry t site (words (nat site)) (by omega) (by omega) (trim site (by omega));rwa[Bl] at this
  |succ j ih =>
   intro t carry site hj ht hs hc hinv;have h1:=jQ a t;have h2:=jQ b t;obtain⟨w,hw⟩:=kd ((carry+(wd a t+wd b t))%4294967296) (by omega);refine lP.eu a b carry t site _ _ (wd a t+wd b t) (carry+(wd a t+wd b t)) w _ (by omega) (word a t) (word b t) (by omega) (by omega) hw.symm (by omega) rfl (by omega) ?_;refine ih (t+1) _ (site.set t w) (by omega) (by omega) (by simpa using hs) (by simp;omega) ?_;rw[iK (by omega),dR a t,dR b t,hw];have h5:(4294967296:Nat)^(t+1)=4294967296^t*4294967296:=acb ..;rw[h5,ace];have h6:4294967296^t*((carry+(wd a t+wd b t))%4294967296)+4294967296^t*(4294967296*((carry+(wd a t+wd b t))/2^min 32 64))=4294967296^t*carry+4294967296^t*wd a t+4294967296^t*wd b t:=by
    rw[←ac6,←ac6,←ac6]
    congr 1
    have:(2:Nat)^min 32 64=4294967296:=by decide
    rw[this];omega
   omega
 exact lP.e0 a b (by omega) (by omega) (loop _ 0 0 _ rfl (by omega) (by simp) (by omega) (by simp[nat]))
end eJ
def eM(a b:Int):Int:=if a<b then -1 else if a=b then 0 else 1
theorem rU{a b:Int}(h:a<b):eM a b = -1:=by simp[eM,h]
theorem uj{a b:Int}(h:b<a):eM a b=1:=by unfold eM;rw[ac3 (by omega),ac3 (by omega)]
theorem D1{a b:Int}(h:a=b):eM a b=0:=by unfold eM;rw[ac3 (by omega),ac7 h]
theorem xM(l:Words)(k:Nat){v:UInt32}(h:l[k]? = some v):nat l=nat (l.take k)+4294967296^k*v.toNat+4294967296^(k+1)*nat (l.drop (k+1)):=by have hk:=(abL.1 h).1;rw[jg l k (by omega),qQ h,acb,ac6,ace];omega
theorem Bm{a b:Words}{k:Nat}{v w:UInt32}(ha:a[k]? = some v)(hb:b[k]? = some w)(hd:a.drop (k+1)=b.drop (k+1))(h:v.toNat<w.toNat):nat a<nat b:=by rw[xM a k ha,xM b k hb,hd];have h1:=ez (a.take k);have h2:=jr (show (a.take k).length≤k by simp;omega);have h3:4294967296^k*(v.toNat+1)≤4294967296^k*w.toNat:=ac2 _ h;rw[ac6] at h3;omega
namespace eJ
theorem compare(a b:Words)(ha:cn a=true)(hb:cn b=true)(hl:a.length<9223372036854775808):Cp 63 [af a,af b] (vI (eM (nat a) (nat b))):=by
 by_cases hlen:a.length=b.length
 ·have loop:∀n:Nat,n≤a.length→a.drop n=b.drop n→eo.ay a b ((n:Int)-1) (vI (eM (nat a) (nat b))):=by
   intro n
   induction n with
   |zero =>
    intro _ hd;have:a=b:=by simpa using hd
    rw[D1 (by rw[this])];exact eo.ym a b _ (by omega)
   |succ n ih =>
    intro hn hd;obtain⟨v,hv⟩:∃v,a[n]? = some v:=⟨_,abJ (by omega)⟩;obtain⟨w,hw⟩:∃w,b[n]? = some w:=⟨_,abJ (by omega)⟩;by_cases he:v.toNat=w.toNat
    ·refine eo.im a b _ n v n w (by omega) (by omega) hv (by omega) hw he (by unfold bf;omega) ?_;rw[show ((n+1:Nat):Int)-1-1=(n:Int)-1 from by omega];refine ih (by omega) ?_;have h1:=List.getElem_of_getElem? hv;obtain⟨h1,h2⟩:=abL.1 hv;obtain⟨h3,h4⟩:=abL.1 hw;rw[acx h1,acx h3,h2,h4,hd,S1 he]
    ·by_cases cT:v.toNat<w.toNat
     ·rw[rU (by have:=Bm hv hw hd cT;omega)];exact eo.eu a b _ n v n w n v n w (by omega) (by omega) hv (by omega) hw he (by omega) hv (by omega) hw cT
     ·rw[uj (by have:=Bm hw hv hd.symm (by omega);omega)];exact eo.dp a b _ n v n w n v n w (by omega) (by omega) hv (by omega) hw he (by omega) hv (by omega) hw (by omega)
  refine eo.e2 a b hlen (by unfold bf;omega) (loop a.length (abW _) ?_);rw[acF (abW _),acF (by omega)]
 ·have key:∀x y:Words,cn y=true→x.length<y.length→nat x<nat y:=by
   intro x y hy cT;have h1:=ez x;have h2:=FB hy (by intro e;rw[e] at cT;simp at cT);have h3:=jr (show x.length≤y.length-1 by omega);omega
  by_cases cT:a.length<b.length
  ·rw[rU (by have:=key a b hb cT;omega)];exact eo.e0 a b hlen cT
  ·rw[uj (by have:=key b a ha (by omega);omega)];exact eo.e1 a b hlen (by omega)
theorem less(a b:Words)(ha:a.length≤2199023255552)(Qw:nat b≤nat a):Cp 111 [af a,af b] (af (words (nat a-nat b))):=by
 have loop:∀(j t borrow:Nat) (site:Words),a.length-t=j→t≤a.length→site.length=a.length→borrow≤1 →
   nat (site.take t)+nat (b.take t)=nat (a.take t)+4294967296^t*borrow→lS.ay a b borrow t site (af (words (nat a-nat b))):=by
  intro j
  induction j with
  |zero =>
   intro t borrow site hj ht hs hc hinv;have zv:t=a.length:=by omega
   have Bl:nat site=nat a-nat b:=by
    subst zv;rw[bA (by omega),bA (l:=a) (by omega)] at hinv;have h1:=ez a;have h2:=ez site;rw[hs] at h2;have h3:nat (b.take a.length)=nat b:=by
     by_cases hl:b.length≤a.length
     ·exact bA hl
     ·have h4:=jg b a.length (by omega);have h5:nat (b.drop a.length)=0:=by
       refine acG fun hp => ?_
       have:=ac2 (4294967296^a.length) hp;omega
      rw[h5] at h4;omega
    have Hn:borrow=0:=by
     refine acG fun hp => ?_
     have:=ac2 (4294967296^a.length) hp;omega
    subst Hn;omega
   have:=lS.dp a b borrow t site (words (nat site)) (by omega) (by omega) (trim site (by omega));rwa[Bl] at this
  |succ j ih =>
   intro t borrow site hj ht hs hc hinv;obtain⟨v,hv⟩:∃v,a[t]? = some v:=⟨_,abJ (by omega)⟩;have h1:=lj v;have h2:=jQ b t;have hz:∃(d d1 x nb:Nat),((v.toNat:Nat)-(wd b t:Nat):Int)%18446744073709551616=(d:Int)∧((d:Nat)-(borrow:Nat):Int)%18446744073709551616=(d1:Int)∧d1%4294967296=x∧d1/2^min 63 64=nb∧nb≤1∧x<4294967296∧x+wd b t+borrow=v.toNat+4294967296*nb:=by
    refine⟨(((v.toNat:Nat)-(wd b t:Nat):Int)%18446744073709551616).toNat,((((v.toNat:Nat)-(wd b t:Nat):Int)%18446744073709551616-borrow)%18446744073709551616).toNat,_,_,by omega,by omega,rfl,rfl,?_⟩;have e:(2:Nat)^min 63 64=9223372036854775808:=by decide
    rw[e];generalize wd b t=q at *;generalize v.toNat=p at *;by_cases Mu:q+borrow≤p
    ·have e1:(((p:Int)-(q:Int))%18446744073709551616-borrow)%18446744073709551616=(p:Int)-q-borrow:=by omega
     rw[e1];omega
    ·have e1:(((p:Int)-(q:Int))%18446744073709551616-borrow)%18446744073709551616=(p:Int)-q-borrow+18446744073709551616:=by omega
     rw[e1];omega
   obtain⟨d,d1,x,nb,g1,g2,g3,g4,g5,g6,g7⟩:=hz;obtain⟨w,hw⟩:=kd x g6;refine lS.eu a b borrow t site v _ d d1 w nb (by omega) hv (word b t) g1 g2 (by omega) (by omega) g4 (by omega) ?_;refine ih (t+1) nb (site.set t w) (by omega) (by omega) (by simpa using hs) g5 ?_;rw[iK (by omega),cH hv,dR b t,hw,acb,ace];have h6:4294967296^t*x+4294967296^t*wd b t+4294967296^t*borrow=4294967296^t*v.toNat+4294967296^t*(4294967296*nb):=by rw[←ac6,←ac6,←ac6,g7]
   omega
 exact lS.e0 a b (by omega) (loop _ 0 0 _ rfl (by omega) (by simp) (by omega) (by simp[nat]))
theorem Bn{p q:Nat}(hp:p<4294967296)(hq:q<4294967296):p*q≤18446744065119617025:=by have:=Nat.mul_le_mul (show p≤4294967295 by omega) (show q≤4294967295 by omega);omega
theorem times(a b:Words)(ha:a.length≤2199023255552)(hb:b.length≤2199023255552):Cp 67 [af a,af b] (af (words (nat a*nat b))):=by
 have inner:∀(i:Nat) (v:UInt32) (r:PV),i<a.length→(∀site:Words,site.length=a.length+b.length→nat site=nat (a.take i)*nat b+4294967296^i*(v.toNat*nat b)→(∀q,i+1+b.length≤q→q<site.length→wd site q=0)→fD.ay b a (i+1) site r) →
   ∀(j k carry:Nat) (site:Words),b.length-k=j→k≤b.length→site.length=a.length+b.length→carry<4294967296→(∀q,i+b.length≤q→q<site.length→wd site q=0) →
   nat site+4294967296^(i+k)*carry=nat (a.take i)*nat b+4294967296^i*(v.toNat*nat (b.take k))→fD.bS b a i v carry i k site r:=by
  intro i v r hi Py j
  induction j with
  |zero =>
   intro k carry site hj hk hs hc hz hinv;have hke:k=b.length:=by omega
   subst hke;obtain⟨w,hw⟩:=kd carry hc;refine fD.zf b a i v carry i b.length site w (by omega) (by omega) (by omega) (by omega) (by omega) (by omega) (Py _ (by simpa using hs) ?_ ?_)
   ·obtain⟨u,hu⟩:∃u,site[i+b.length]? = some u:=⟨_,abJ (by omega)⟩;have h0:=hz (i+b.length) (by omega) (by omega);rw[ov hu] at h0;have h1:=w7 site (i+b.length) w u hu;rw[h0,hw] at h1;rw[bA (l:=b) (by omega)] at hinv;omega
   ·intro q WH Jw;rw[aeo] at Jw;have:=hz q (by omega) Jw;unfold wd at this ⊢;rw[acY (by omega)];exact this
  |succ j ih =>
   intro k carry site hj hk hs hc hz hinv;obtain⟨u,hu⟩:∃u,b[k]? = some u:=⟨_,abJ (by omega)⟩;obtain⟨x,hx⟩:∃x,site[i+k]? = some x:=⟨_,abJ (by omega)⟩;have h1:=Bn (lj v) (lj u);have h2:=lj x;generalize hp:v.toNat*u.toNat=p at *;obtain⟨w,hw⟩:=kd ((carry+(p+x.toNat))%4294967296) (by omega);have e:(2:Nat)^min 32 64=4294967296:=by decide
   refine fD.yn b a i v carry i k site u p x (p+x.toNat) (carry+(p+x.toNat)) w ((carry+(p+x.toNat))/4294967296) (by omega) hu (by rw[hp];omega) (by omega) (by omega) hx (by omega) (by omega) hw.symm (by omega) (by rw[e]) (by omega) ?_;refine ih (k+1) _ (site.set (i+k) w) (by omega) (by omega) (by simpa using hs) (by omega) ?_ ?_
   ·intro q WH Jw;rw[aeo] at Jw;have:=hz q WH Jw;unfold wd at this ⊢;rw[acY (by omega)];exact this
   ·have g1:=w7 site (i+k) w x hx;rw[hw] at g1;rw[cH hu,show i+(k+1)=i+k+1 from rfl,acb,ace];have g2:4294967296^(i+k)*((carry+(p+x.toNat))%4294967296)+4294967296^(i+k)*(4294967296*((carry+(p+x.toNat))/4294967296))=4294967296^(i+k)*carry+4294967296^(i+k)*p+4294967296^(i+k)*x.toNat:=by
     rw[←ac6,←ac6,←ac6];congr 1;omega
    have g3:4294967296^i*(v.toNat*(nat (b.take k)+4294967296^k*u.toNat))=4294967296^i*(v.toNat*nat (b.take k))+4294967296^(i+k)*p:=by
     rw[←hp,aeu,ac6,ac6]
     congr 1
     rw[ace];congr 1;rw[af6]
    omega
 have loop:∀(j t:Nat) (site:Words),a.length-t=j→t≤a.length→site.length=a.length+b.length→nat site=nat (a.take t)*nat b→(∀q,t+b.length≤q→q<site.length→wd site q=0) →
   fD.ay b a t site (af (words (nat a*nat b))):=by
  intro j
  induction j with
  |zero =>intro t site hj ht hs hinv _;rw[bA (by omega)] at hinv;have:=fD.dp b a t site (words (nat site)) (by omega) (by omega) (trim site (by omega));rwa[hinv] at this
  |succ j ih =>
   intro t site hj ht hs hinv hz;obtain⟨v,hv⟩:∃v,a[t]? = some v:=⟨_,abJ (by omega)⟩;refine fD.eu b a t site v (by omega) hv ?_;refine inner t v _ (by omega) (fun S2 Jt Ou Oh => ?_) _ 0 0 site rfl (by omega) hs (by omega) hz ?_
   ·refine ih (t+1) S2 (by omega) (by omega) Jt ?_ Oh;rw[Ou,cH hv,acv,ace]
   ·simp[nat,hinv]
 refine fD.e0 a b (by omega) (by omega) (loop _ 0 _ rfl (by omega) (by simp) (by simp[nat,xL]) ?_);intro q _ hq;unfold wd;rw[aep];split
 ·rename_i w h;split at h
  ·injection h with h;subst h;rfl
  ·cases h
 ·rfl
theorem D2{x y:Nat}(hx:x<4294967296)(hy:y<4294967296):((x*4294967296)%18446744073709551616) ||| (y%18446744073709551616)=x*4294967296+y:=by rw[acg (by omega),acg (by omega),acu];exact(ae2 (i:=32) hy x).symm
theorem short(a:Words)(b:UInt32)(ha:a.length≤2199023255552)(hb:b.toNat≠0):Cp 145 [af a,vW b] (.bg [af (words (nat a/b.toNat)),vW (UInt32.ofNat (nat a%b.toNat))]):=by
 have OK:=lj b;have loop:∀(n rest:Nat) (site:Words),n≤a.length→site.length=a.length→rest<b.toNat→nat (a.drop n)=nat (site.drop n)*b.toNat+rest →
   kz.ay a b rest ((n:Int)-1) site (.bg [af (words (nat a/b.toNat)),vW (UInt32.ofNat (nat a%b.toNat))]):=by
  intro n
  induction n with
  |zero =>
   intro rest site _ hs hr hinv;simp only[List.drop_zero] at hinv;have h1:nat a/b.toNat=nat site:=by rw[hinv,acu,aeM (by omega),aeD hr,ad0]
   have h2:nat a%b.toNat=rest:=by rw[hinv,acu,afg,acg hr]
   have hw:rest%4294967296=(UInt32.ofNat rest).toNat:=(w6 rest).symm;rw[h1,h2];exact kz.dp a b rest _ site (words (nat site)) _ (by omega) hs.symm (trim site (by omega)) hw
  |succ n ih =>
   intro rest site hn hs hr hinv;obtain⟨v,hv⟩:∃v,a[n]? = some v:=⟨_,abJ (by omega)⟩;have En:=lj v;have e:(2:Nat)^min 32 64=4294967296:=by decide
   have hq:(rest*4294967296+v.toNat)/b.toNat<4294967296:=by rw[adv (by omega)];have:=ac9 4294967296 (show rest+1≤b.toNat by omega);rw[acv] at this;rw[acu 4294967296];omega
   obtain⟨w,hw⟩:=kd _ hq;refine kz.eu a b rest _ site _ n v (rest*4294967296+v.toNat) ((rest*4294967296+v.toNat)/b.toNat) w n ((rest*4294967296+v.toNat)%b.toNat) (by omega) rfl (by omega) hv ?_ hb (by omega) (by omega) (by omega) (by omega) (by omega) rfl (by unfold bf;omega) ?_
   ·rw[e,acg (show rest*4294967296<18446744073709551616 by omega)];exact(by have:=D2 (show rest<4294967296 by omega) En;rw[acg (show rest*4294967296<18446744073709551616 by omega)] at this;rw[acg (show rest*4294967296<18446744073709551616 by omega)];exact this)
   ·rw[show ((n+1:Nat):Int)-1-1=(n:Int)-1 from by omega];refine ih _ (site.set n w) (by omega) (by simpa using hs) (adB _ (by omega)) ?_;rw[qQ hv,qQ (l:=site.set n w) (v:=w) (by rw[aes (by omega)]),List.drop_set_of_lt (by omega),hinv,hw];have h5:=adl (rest*4294967296+v.toNat) b.toNat;generalize (rest*4294967296+v.toNat)/b.toNat=q at *;generalize (rest*4294967296+v.toNat)%b.toNat=m at *;generalize nat (site.drop (n+1))=S at *;generalize b.toNat=B at *;rw[acv,ac6,acu q B];rw[←ace];omega
 have:=kz.e0 a b (r:=_) (by omega) (by unfold bf;omega) (loop a.length 0 _ (abW _) (by simp) (by omega) (by rw[List.drop_of_length_le (Nat.le_refl _),List.drop_of_length_le (by simp)];simp[nat]));exact this
end eJ
def blen(n:Nat):Nat:=bif Nat.beq n 0 then 0 else Nat.log2 n+1
theorem Nt{n k:Nat}(h1:2^k≤n)(h2:n<2^(k+1)):blen n=k+1:=by
 have h0:n≠0:=by have:=acU k;omega
 have hb:Nat.beq n 0=false:=by
  cases hb:Nat.beq n 0 with
  |true=>exact absurd (abO hb) h0
  |false=>rfl
 unfold blen;rw[hb,ac1]
 congr 1
 have g1:=(Nat.le_log2 h0).2 h1;have g2:=(Nat.log2_lt h0).2 h2;omega
theorem Je:blen 0=0:=rfl
theorem xN{n:Nat}(h:n≠0):∃k,blen n=k+1∧2^k≤n∧n<2^(k+1):=by
 have hb:Nat.beq n 0=false:=by
  cases hb:Nat.beq n 0 with
  |true=>exact absurd (abO hb) h
  |false=>rfl
 refine⟨Nat.log2 n,?_,Nat.log2_self_le h,Nat.lt_log2_self⟩;unfold blen;rw[hb,ac1]
theorem Bo{n k:Nat}(h:2^k≤n):blen n=k+blen (n/2^k):=by
 have hk:=acU k;have h0:n/2^k≠0:=by have:=Nat.div_pos h hk;omega
 obtain⟨m,h1,h2,h3⟩:=xN h0;have:=Nt (n:=n) (k:=k+m) (by
  rw[aeu];have:=ac2 (2^k) h2;have:=Nat.mul_div_le n (2^k);omega) (by
  have h4:=(adv hk).1 h3;rw[←aeu] at h4;rw[show k+m+1=m+1+k from by omega];exact h4)
 omega
theorem pZ{n k:Nat}(h:n<2^k):blen n≤k:=by
 by_cases h0:n=0
 ·subst h0;simp[Je]
 ·obtain⟨m,h1,h2,_⟩:=xN h0;have:=(aeh (a:=2) (by omega)).1 (adx h2 h);omega
namespace K9
def YI:ByteArray:=(ByteArray.mk #[0,1,2,2,3,3,3,3,4,4,4,4,4,4,4,4,5,5,5,5,5,5,5,5,5,5,5,5,5,5,5,5,6,6,6,6,6,6,6,6,6,6,6,6,6,6,6,6,6,6,6,6,6,6,6,6,6,6,6,6,6,6,6,6,7,7,7,7,7,7,7,7,7,7,7,7,7,7,7,7,7,7,7,7,7,7,7,7,7,7,7,7,7,7,7,7,7,7,7,7,7,7,7,7,7,7,7,7,7,7,7,7,7,7,7,7,7,7,7,7,7,7,7,7,7,7,7,7,8,8,8,8,8,8,8,8,8,8,8,8,8,8,8,8,8,8,8,8,8,8,8,8,8,8,8,8,8,8,8,8,8,8,8,8,8,8,8,8,8,8,8,8,8,8,8,8,8,8,8,8,8,8,8,8,8,8,8,8,8,8,8,8,8,8,8,8,8,8,8,8,8,8,8,8,8,8,8,8,8,8,8,8,8,8,8,8,8,8,8,8,8,8,8,8,8,8,8,8,8,8,8,8,8,8,8,8,8,8,8,8,8,8,8,8,8,8,8,8,8,8,8,8,8,8,8,8])
theorem Nu:(List.range 256).all (fun m=>((YI.data.toList[m]?).map fun b=>(b.toNat:Int))==some (blen m:Int))=true:=by decide +kernel
theorem Bp{m:Nat}(h:m<256):((YI.data.toList[m]?).map fun b=>(b.toNat:Int))=some (blen m:Int):=by have:=Nu;rw[abX] at this;simpa using this m (by simpa using h)
theorem S3(x:UInt32):Cp 197 [vW x] (vI (blen x.toNat)):=by
 have hx:=lj x;have UG:(2:Nat)^min 16 32=65536:=by decide
 have e8:(2:Nat)^min 8 32=256:=by decide
 by_cases h1:65536≤x.toNat
 ·obtain⟨z,hz⟩:=kd (x.toNat/65536) (by omega);have b1:=Bo (n:=x.toNat) (k:=16) h1;rw[show (2:Nat)^16=65536 from rfl] at b1;by_cases h2:256≤x.toNat/65536
  ·obtain⟨z1,Nv⟩:=kd (x.toNat/65536/256) (by omega);have b2:=Bo (n:=x.toNat/65536) (k:=8) h2;rw[show (2:Nat)^8=256 from rfl] at b2;have b3:=pZ (n:=x.toNat/65536/256) (k:=8) (by rw[show (2:Nat)^8=256 from rfl];omega);have:=iR.e0 x z z1 (x.toNat/65536/256) (blen (x.toNat/65536/256)) h1 (by rw[UG,hz]) (by omega) (by rw[e8,Nv,hz]) (by omega) (Bp (by omega)) (by omega) (by omega);rw[b1,b2,←ael];exact this
  ·have b3:=pZ (n:=x.toNat/65536) (k:=8) (by rw[show (2:Nat)^8=256 from rfl];omega);have:=iR.e1 x z (x.toNat/65536) (blen (x.toNat/65536)) h1 (by rw[UG,hz]) (by omega) (by omega) (Bp (by omega)) (by omega) (by omega);rw[b1];exact this
 ·by_cases h2:256≤x.toNat
  ·obtain⟨z,hz⟩:=kd (x.toNat/256) (by omega);have b1:=Bo (n:=x.toNat) (k:=8) h2;rw[show (2:Nat)^8=256 from rfl] at b1;have b3:=pZ (n:=x.toNat/256) (k:=8) (by rw[show (2:Nat)^8=256 from rfl];omega);have:=iR.e2 x z (x.toNat/256) (blen (x.toNat/256)) (by omega) h2 (by rw[e8,hz]) (by omega) (Bp (by omega)) (by omega) (by omega);rw[b1];exact this
  ·have b3:=pZ (n:=x.toNat) (k:=8) (by rw[show (2:Nat)^8=256 from rfl];omega);have:=iR.e3 x x.toNat (blen x.toNat) (by omega) (by omega) (by omega) (Bp (by omega)) (by omega) (by omega);rw[acw] at this;exact this
theorem Bq(x:UInt32):Cp 146 [vW x] (vI ((32-blen x.toNat:Nat):Int)):=by have h:=pZ (n:=x.toNat) (k:=32) (lj x);have:=kA.e0 x _ (S3 x) (by unfold bf;omega);rw[show ((32-blen x.toNat:Nat):Int)=32-(blen x.toNat:Int) from by omega];exact this
end K9
theorem CZ{s:Nat}(hs:s≤32):2^s*2^(32-s)=4294967296:=by rw[←aeu,show s+(32-s)=32 from by omega]
namespace eJ
theorem Nx{v1 v:Nat}{s:Nat}(hs:s<32)(h1:v1<2^s)(hv:v<4294967296) :
  ∃y w z x,(v*2^min s 64)%18446744073709551616=y∧y%4294967296=w∧(v1%4294967296) ||| (w%4294967296)=z∧z<4294967296∧y/4294967296=x∧x<2^s∧w<4294967296∧z+4294967296*x=v1+v*2^s:=by
 have e:=CZ (show s≤32 by omega);have hp:=acU s;have hle:2^s≤2147483648:=by have:=ad8 (n:=2) (by omega) (show s≤31 by omega);simpa using this
 have J8:min s 64=s:=by omega
 rw[J8];have hb:v*2^s<18446744073709551616:=by have:=Nat.mul_le_mul (show v≤4294967295 by omega) hle;omega
 rw[acg hb];generalize hP:2^s=p at *;generalize hQ:2^(32-s)=q at *;have hw:(v*p)%4294967296=p*(v%q):=by rw[←e,acu v p,Nat.mul_mod_mul_left]
 have hx:(v*p)/4294967296=v/q:=by rw[←e,acu v p,Nat.mul_div_mul_left _ _ hp]
 have hq:0<q:=by rw[←hQ];exact acU _
 have hm:=adB v hq;have cT:p*(v%q)+p≤4294967296:=by have:=ac2 p (show v%q+1≤q by omega);rw[ac6,e] at this;omega
 have YJ:v1 ||| p*(v%q)=p*(v%q)+v1:=by rw[Nat.or_comm];subst hP;exact(ae2 h1 (v%q)).symm
 refine⟨_,_,_,_,rfl,rfl,rfl,?_,rfl,?_,by omega,?_⟩
 ·rw[hw,acg (show v1<4294967296 by omega),acg (show p*(v%q)<4294967296 by omega),YJ];omega
 ·rw[hx,adv hq,e];exact hv
 ·rw[hw,acg (show v1<4294967296 by omega),acg (show p*(v%q)<4294967296 by omega),YJ,hx];have:=adl v q;have h3:p*v=p*(q*(v/q))+p*(v%q):=by rw[←ac6,this]
  rw[←ace,e] at h3;rw[acu v p];omega
def Ny(a:Words)(s t:Nat)(site:Words):Prop:=site.length=a.length+1∧nat site=nat (a.take t)*2^s∧(∀q,t<q→q<site.length→wd site q=0)∧wd site t<2^s
theorem Nz{a:Words}{s t:Nat}{site:Words}{v v1 z x:UInt32}(hi:Ny a s t site)(ht:t<a.length)(hv:a[t]? = some v)(Ho:site[t]? = some v1)(hx:x.toNat<2^s)(he:z.toNat+4294967296*x.toNat=v1.toNat+v.toNat*2^s) :
  Ny a s (t+1) ((site.set t z).set (t+1) x):=by
 obtain⟨h1,h2,h3,h4⟩:=hi;refine⟨by simpa using h1,?_,fun q WH Jw => ?_,?_⟩
 ·obtain⟨u,hu⟩:∃u,(site.set t z)[t+1]? = some u:=⟨_,abJ (by simp;omega)⟩;have MK:u.toNat=0:=by
   have:=h3 (t+1) (by omega) (by omega);rw[acY (by omega)] at hu;rw[ov hu] at this;exact this
  have g1:=w7 site t z v1 Ho;have g2:=w7 (site.set t z) (t+1) x u hu;rw[MK,afh,ad0,acb,ace] at g2;rw[cH hv,acv,←h2];have g3:4294967296^t*z.toNat+4294967296^t*(4294967296*x.toNat)=4294967296^t*v1.toNat+4294967296^t*v.toNat*2^s:=by rw[←ac6,he,ac6,ace]
  omega
 ·rw[aeo,aeo] at Jw;have:=h3 q (by omega) Jw;unfold wd at this ⊢;rw[acY (by omega),acY (by omega)];exact this
 ·rw[ov (v:=x) (by rw[aes (by simp;omega)])];exact hx
theorem NA(a:Words)(s:Nat):Ny a s 0 (List.replicate (a.length+1) (0:UInt32)):=by
 refine⟨by simp,by simp[nat,xL],fun q _ hq => ?_,?_⟩
 ·unfold wd;rw[aep];rw[ae3] at hq;rw[ac7 hq];rfl
 ·unfold wd;rw[aep,ac7 (by omega)];exact acU s
theorem up(a:Words)(s:Nat)(ha:a.length≤2199023255552)(hs:s<32):∃z:Words,z.length=a.length+1∧nat z=nat a*2^s∧Cp 147 [af a,vI (s:Int)] (af z) ∧
  ag aV 147 [.pv (af a),.pv (vI (s:Int))] [] (.row 0 0 (a.length+1) 1) [(0,(.pure ((z:List UInt32).map aE).flatten))]:=by
 have loop:∀(j t:Nat) (site:Words),a.length-t=j→t≤a.length→Ny a s t site →
   ∃z:Words,z.length=a.length+1∧nat z=nat a*2^s∧oV.ay (s:Int) a t site (af z)∧nu.ay (s:Int) a t site [] (.row 0 0 (a.length+1) 1) [(0,(.pure ((z:List UInt32).map aE).flatten))]:=by
  intro j
  induction j with
  |zero =>intro t site hj ht hi;obtain⟨h1,h2,_,_⟩:=hi;rw[bA (by omega)] at h2;exact⟨site,h1,h2,oV.dp _ a t site (by omega) h1.symm,by have h9:=nu.dp (s:Int) a t site (sin:=[]) rfl rfl (by omega);rw[acd (by omega)] at h9;exact h9⟩
  |succ j ih =>
   intro t site hj ht hi;obtain⟨v,hv⟩:∃v,a[t]? = some v:=⟨_,abJ (by omega)⟩;obtain⟨v1,Ho⟩:∃v1,site[t]? = some v1:=⟨_,abJ (by have:=hi.1;omega)⟩;have WI:v1.toNat<2^s:=by have:=hi.2.2.2;rw[ov Ho] at this;exact this
   obtain⟨y,w,z,x,g1,g2,g3,g4,g5,g6,g7,g8⟩:=Nx hs WI (lj v);obtain⟨w',UJ⟩:=kd w g7;obtain⟨z',Oh⟩:=kd z g4;have hp:=ad8 (n:=2) (by omega) (show s≤32 by omega);have hp:2^s≤4294967296:=hp;obtain⟨x',uJ⟩:=kd x (by omega);have e:(2:Nat)^min 32 64=4294967296:=by decide
   have hlen:=hi.1;obtain⟨zz,q1,q2,q3,q4⟩:=ih (t+1) _ (by omega) (by omega) (Nz hi (by omega) hv Ho (x:=x') (z:=z') (by omega) (by rw[Oh,uJ];exact g8));refine⟨zz,q1,q2,?_,?_⟩
   ·exact oV.eu _ a t site v s y v1 w' z' x x' (by omega) hv rfl g1 (by omega) Ho (by omega) (by rw[UJ];omega) (by omega) (by omega) (by rw[e];exact g5) (by omega) (by omega) (by simp;omega) q3
   ·exact nu.eu _ a t site v s y v1 w' z' x x' rfl (by omega) hv rfl g1 (by omega) Ho (by omega) (by rw[UJ];omega) (by omega) (by omega) (by rw[e];exact g5) (by omega) (by omega) (by simp;omega) q4
 obtain⟨z,h1,h2,h3,h4⟩:=loop a.length 0 _ rfl (by omega) (NA a s);exact⟨z,h1,h2,oV.e0 a _ (by omega) (by omega) h3,nu.e0 a _ (by omega) (by omega) h4⟩
theorem NB{x y:Nat}(hx:x<4294967296)(hy:y<4294967296):(x%18446744073709551616) ||| ((y*4294967296)%18446744073709551616%18446744073709551616)=y*4294967296+x:=by rw[Nat.or_comm,afl];exact D2 hy hx
theorem jR(a:Words)(t:Nat):nat (a.drop t)=wd a t+4294967296*nat (a.drop (t+1)):=by
 by_cases h:t<a.length
 ·have hv:=abJ h;rw[qQ hv,ov hv]
 ·rw[acF (by omega),acF (by omega),ni (by omega)];rfl
theorem tT(a:Words)(t:Nat)(ht:t≤a.length):nat a/4294967296^t=nat (a.drop t):=by have h1:=ez (a.take t);rw[ac8,acQ ht] at h1;rw[jg a t ht,aeS,aeM (by omega),aeD h1,ad0]
theorem down(a:Words)(s:Nat)(ha:a.length≤2199023255552)(hs:s<32):Cp 150 [af a,vI (s:Int)] (af (words (nat a/2^s))):=by
 have hp:=acU s;have e2:=CZ (show s≤32 by omega);have loop:∀(j t:Nat) (site:Words),a.length-t=j→t≤a.length→site.length=a.length→nat (site.take t)=(nat a/2^s)%4294967296^t→lU.ay a (s:Int) t site (af (words (nat a/2^s))):=by
  intro j
  induction j with
  |zero =>
   intro t site hj ht hl hinv;have zv:t=a.length:=by omega
   subst zv;rw[bA (by omega),acg (adx (acJ _ _) (ez a))] at hinv;have:=lU.dp a (s:Int) a.length site (words (nat site)) (by omega) hl.symm (trim site (by omega));rwa[hinv] at this
  |succ j ih =>
   intro t site hj ht hl hinv;obtain⟨v,hv⟩:∃v,a[t]? = some v:=⟨_,abJ (by omega)⟩;have h1:=lj v;have h2:=jQ a (t+1);have e:(2:Nat)^min 32 64=4294967296:=by decide
   obtain⟨w,hw⟩:=kd ((wd a (t+1)*4294967296+v.toNat)/2^s%4294967296) (adB _ (by omega));refine lU.eu a (s:Int) t site v (wd a (t+1)) _ (wd a (t+1)*4294967296+v.toNat) s ((wd a (t+1)*4294967296+v.toNat)/2^s) w (by omega) hv (by omega) (word a (t+1)) rfl (by rw[e];exact NB h1 h2) rfl (by rw[show min s 64=s from by omega]) hw.symm (by omega) ?_;refine ih (t+1) (site.set t w) (by omega) (by omega) (by simpa using hl) ?_;rw[iK (by omega),hinv,hw];have g1:nat a/2^s/4294967296^t=nat (a.drop t)/2^s:=by rw[adY,acu,←adY,tT a t (by omega)]
   have g2:nat (a.drop t)/2^s%4294967296=(wd a (t+1)*4294967296+v.toNat)/2^s%4294967296:=by
    rw[jR a t,jR a (t+1),ov hv];generalize nat (a.drop (t+1+1))=r;generalize wd a (t+1)=y;generalize v.toNat=x;generalize hP:2^s=p at *;generalize hQ:2^(32-s)=q at *;have:x+4294967296*(y+4294967296*r)=p*(4294967296*(q*r))+(y*4294967296+x):=by
     have:p*(4294967296*(q*r))=4294967296*(4294967296*r):=by rw[af6 p 4294967296,←ace p q r,e2]
     omega
    rw[this,aeM hp,afg]
   have g3:=Nat.mod_mul (a:=4294967296^t) (b:=4294967296) (x:=nat a/2^s);rw[acb,g3,g1,g2]
 exact lU.e0 a (s:Int) (by omega) (loop _ 0 _ rfl (by omega) (by simp) (by simp[nat,Nat.mod_one]))
theorem xa{α:Type}(A U C:List α)(t:Nat)(x:α)(ht:t<U.length):(A++(U++C)).set (A.length+t) x=A++(U.set t x++C):=by rw[List.set_append_right _ _ (by omega),show A.length+t-A.length=t from by omega,List.set_append_left _ _ ht]
theorem gu{α:Type}(A U C:List α)(t:Nat)(x:α)(h:U[t]? = some x):(A++(U++C))[A.length+t]? = some x:=by have ht:=(abL.1 h).1;rw[acS (by omega),show A.length+t-A.length=t from by omega,ad9 ht];exact h
abbrev La(A U C:Words):SC := .pure (((A++(U++C):List UInt32)).map aE).flatten
theorem remove(A U C v:Words)(n off len:Nat)(ho:off=A.length)(hlen:len=U.length)(hU:U.length≤2199023255553)(hn:n<4294967296)(hb:n*nat v<4294967296^U.length)(En:v.length≤U.length) :
  ∃(U':Words) (bo:Bool),U'.length=U.length∧((bo=false→nat U'+n*nat v=nat U)∧(bo=true→nat U'+n*nat v=nat U+4294967296^U.length)) ∧
   ag aV 148 [.row 100000 off len 1,.pv (af v),.pv (vU n)] [(100000,La A U C)] (.pv (vB bo)) [(100000,La A U' C)]:=by
 subst ho;subst hlen;have loop:∀(j t carry borrow:Nat) (U0:Words),U.length-t=j→t≤U.length→U0.length=U.length→borrow≤1→carry<4294967296→4294967296^t*carry≤n*nat (v.take t)→(∀q,t≤q→U0[q]? = U[q]?) →
   nat (U0.take t)+n*nat (v.take t)=nat (U.take t)+4294967296^t*(carry+borrow) →
   ∃(U':Words) (bo:Bool),U'.length=U.length∧((bo=false→nat U'+n*nat v=nat U)∧(bo=true→nat U'+n*nat v=nat U+4294967296^U.length)) ∧
    jK.ay A.length U.length v n carry borrow t (A++(U0++C)) [(100000,La A U C)] (.pv (vB bo)) [(100000,La A U' C)]:=by
  intro j
  induction j with
  |zero =>
   intro t carry borrow U0 hj ht hl S4 RD nJ _ hinv;have zv:t=U.length:=by omega
   subst zv;rw[bA (l:=v) En] at hinv nJ;rw[bA (by omega),bA (l:=U) (by omega)] at hinv;have Qv:carry=0:=by
    refine acG fun hp => ?_
    have:=ac2 (4294967296^U.length) hp;omega
   subst Qv;refine⟨U0,decide ((borrow:Int)=1),hl,?_,?_⟩
   ·by_cases h1:borrow=1
    ·subst h1;exact⟨fun h=>by simp at h,fun _=>by rw[hinv];simp⟩
    ·have h0:borrow=0:=by omega
     subst h0;exact⟨fun _=>by rw[hinv];simp,fun h=>by simp at h⟩
   ·have:=jK.dp A.length U.length v n 0 borrow U.length (A++(U0++C)) (sin:=[(100000,La A U C)]) rfl rfl (by omega);have e:((borrow:Int)==1)=decide ((borrow:Int)=1):=by
     by_cases h1:borrow=1
     ·subst h1;rfl
     ·have h0:borrow=0:=by omega
      subst h0;rfl
    rw[e] at this;exact this
  |succ j ih =>
   intro t carry borrow U0 hj ht hl S4 RD nJ gP hinv;obtain⟨x,hx⟩:∃x,U[t]? = some x:=⟨_,abJ (by omega)⟩;have Kq:U0[t]? = some x:=by rw[gP t (abW t)];exact hx
   have h1:=jQ v t;have h2:=lj x;have h3:=Bn hn h1;have e:(2:Nat)^min 32 64=4294967296:=by decide
   generalize hp:n*wd v t=p at *;obtain⟨lo,Gt⟩:=kd ((carry+p)%4294967296) (by omega);have hz:∃(d d1 y nb:Nat),((x.toNat:Nat)-(lo.toNat:Nat):Int)%18446744073709551616=(d:Int)∧((d:Nat)-(borrow:Nat):Int)%18446744073709551616=(d1:Int)∧d1%4294967296=y∧d1/2^min 63 64=nb∧nb≤1∧y<4294967296∧y+lo.toNat+borrow=x.toNat+4294967296*nb:=by
    have Qx:=lj lo;refine⟨(((x.toNat:Nat)-(lo.toNat:Nat):Int)%18446744073709551616).toNat,((((x.toNat:Nat)-(lo.toNat:Nat):Int)%18446744073709551616-borrow)%18446744073709551616).toNat,_,_,by omega,by omega,rfl,rfl,?_⟩;have e:(2:Nat)^min 63 64=9223372036854775808:=by decide
    rw[e];generalize lo.toNat=q at *;generalize x.toNat=r at *;by_cases Mu:q+borrow≤r
    ·have e1:(((r:Int)-(q:Int))%18446744073709551616-borrow)%18446744073709551616=(r:Int)-q-borrow:=by omega
     rw[e1];omega
    ·have e1:(((r:Int)-(q:Int))%18446744073709551616-borrow)%18446744073709551616=(r:Int)-q-borrow+18446744073709551616:=by omega
     rw[e1];omega
   obtain⟨d,d1,y,nb,g1,g2,g3,g4,g5,g6,g7⟩:=hz;obtain⟨w,hw⟩:=kd y g6;have MO:=xa A U0 C t w (by omega);have hmul:n*nat (v.take (t+1))=n*nat (v.take t)+4294967296^t*p:=by rw[dR v t,ac6,←hp,af6]
   have Ib:=adl (carry+p) 4294967296;have hA:4294967296^t*carry+4294967296^t*p=4294967296^t*(4294967296*((carry+p)/4294967296))+4294967296^t*lo.toNat:=by rw[Gt,←ac6,←ac6,Ib]
   have hB:4294967296^t*y+4294967296^t*lo.toNat+4294967296^t*borrow=4294967296^t*x.toNat+4294967296^t*(4294967296*nb):=by rw[←ac6,←ac6,←ac6,g7]
   obtain⟨U',bo,q1,q2,q3⟩:=ih (t+1) ((carry+p)/4294967296) nb (U0.set t w) (by omega) (by omega) (by simpa using hl) g5 (by omega)
    (by rw[hmul,acb,ace];omega)
    (fun q hq=>by rw[acY (by omega)];exact gP q (by omega))
    (by rw[iK (by omega),hw,hmul,cH hx,acb,ace,ac6 4294967296,ac6 (4294967296^t)];rw[ac6 (4294967296^t) carry borrow] at hinv;omega)
   refine⟨U',bo,q1,q2,?_⟩;refine jK.eu A.length U.length v n carry borrow t _ (wd v t) p (carry+p) x lo d d1 w nb ((carry+p)/4294967296) rfl (by omega) (word v t) (by rw[hp];omega) (by omega) (gu A U0 C t x Kq) Gt.symm g1 g2 (by omega) (by simp;omega) g4 (by rw[e]) (by omega) ?_;rw[MO];exact q3
 obtain⟨U',bo,h1,h2,h3⟩:=loop _ 0 0 0 U rfl (by omega) rfl (by omega) (by omega) (by simp) (fun _ _=>rfl) (by simp[nat]);exact⟨U',bo,h1,h2,jK.e0 (A++(U++C)) A.length U.length v n h3⟩
theorem back(A U C v:Words)(off len:Nat)(ho:off=A.length)(hlen:len=U.length)(hU:U.length≤2199023255553)(En:v.length≤U.length) :
  ∃(U':Words) (ca:Nat),U'.length=U.length∧ca≤1∧nat U'+4294967296^U.length*ca=nat U+nat v ∧
   ag aV 149 [.row 100000 off len 1,.pv (af v)] [(100000,La A U C)] (.pv (.bg [])) [(100000,La A U' C)]:=by
 subst ho;subst hlen;have loop:∀(j t carry:Nat) (U0:Words),U.length-t=j→t≤U.length→U0.length=U.length→carry≤1→(∀q,t≤q→U0[q]? = U[q]?) →
   nat (U0.take t)+4294967296^t*carry=nat (U.take t)+nat (v.take t) →
   ∃(U':Words) (ca:Nat),U'.length=U.length∧ca≤1∧nat U'+4294967296^U.length*ca=nat U+nat v ∧
    lT.ay A.length U.length v carry t (A++(U0++C)) [(100000,La A U C)] (.pv (.bg [])) [(100000,La A U' C)]:=by
  intro j
  induction j with
  |zero =>
   intro t carry U0 hj ht hl RD _ hinv;have zv:t=U.length:=by omega
   subst zv;rw[bA (l:=v) En] at hinv;rw[bA (by omega),bA (l:=U) (by omega)] at hinv;exact⟨U0,carry,hl,RD,hinv,lT.dp A.length U.length v carry U.length (A++(U0++C)) (sin:=[(100000,La A U C)]) rfl rfl (by omega)⟩
  |succ j ih =>
   intro t carry U0 hj ht hl RD gP hinv;obtain⟨x,hx⟩:∃x,U[t]? = some x:=⟨_,abJ (by omega)⟩;have Kq:U0[t]? = some x:=by rw[gP t (abW t)];exact hx
   have h1:=jQ v t;have h2:=lj x;have e:(2:Nat)^min 32 64=4294967296:=by decide
   obtain⟨w,hw⟩:=kd ((carry+(x.toNat+wd v t))%4294967296) (by omega);have Ib:=adl (carry+(x.toNat+wd v t)) 4294967296;have hA:4294967296^t*carry+4294967296^t*x.toNat+4294967296^t*wd v t=4294967296^t*(4294967296*((carry+(x.toNat+wd v t))/4294967296))+4294967296^t*w.toNat:=by rw[hw,←ac6,←ac6,←ac6,Ib];congr 1;omega
   obtain⟨U',ca,q1,q2,q3,q4⟩:=ih (t+1) ((carry+(x.toNat+wd v t))/4294967296) (U0.set t w) (by omega) (by omega) (by simpa using hl) (by omega)
    (fun q hq=>by rw[acY (by omega)];exact gP q (by omega))
    (by rw[iK (by omega),dR v t,cH hx,acb,ace];omega)
   refine⟨U',ca,q1,q2,q3,?_⟩;refine lT.eu A.length U.length v carry t _ x (wd v t) (x.toNat+wd v t) (carry+(x.toNat+wd v t)) w _ rfl (by omega) (gu A U0 C t x Kq) (word v t) (by omega) (by omega) hw.symm (by simp;omega) (by rw[e]) (by omega) ?_;rw[xa A U0 C t w (by omega)];exact q4
 obtain⟨U',ca,h1,h2,h3,h4⟩:=loop _ 0 0 U rfl (by omega) rfl (by omega) (fun _ _=>rfl) (by simp[nat]);exact⟨U',ca,h1,h2,h3,lT.e0 (A++(U++C)) A.length U.length v h4⟩
end eJ
set_option linter.unusedVariables false
section
variable {V R W top next hi lo head r0 cz rest:Nat}
structure Kn (V R W top next head lo r0:Nat):Prop where
 v1:(top*4294967296+next)*W≤V
 v2:V<(top*4294967296+next+1)*W
 r:R=(head*4294967296+lo)*W+r0
 r0:r0<W
 lo:lo<4294967296
 next:next<4294967296
 top:0<top
 rv:R<V*4294967296
theorem Kn.YK(h:Kn V R W top next head lo r0):R<(head*4294967296+lo+1)*W:=by have h1:=h.r;have h2:=h.r0;rw[acv _ 1,aef];omega
theorem Kn.Lb(h:Kn V R W top next head lo r0):0<V∧4294967296*W≤V:=by have h1:=h.v1;have h2:=h.r0;have h3:4294967296*W≤(top*4294967296+next)*W:=ac9 _ (by have:=h.top;omega);omega
theorem Kn.start(h:Kn V R W top next head lo r0):R/V≤head/top:=by
 have hv:=h.Lb.1;rw[←Nat.lt_succ_iff,adv hv];have h1:head+1≤(head/top+1)*top:=by have:=Nat.lt_div_mul_add (a:=head) h.top;rw[acv,aef];omega
 have h2:(head/top+1)*((top*4294967296+next)*W)≤(head/top+1)*V:=ac2 _ h.v1;have h3:(head*4294967296+lo+1)*W≤(head/top+1)*((top*4294967296+next)*W):=by rw[←ace];refine ac9 _ ?_;rw[ac6,←ace];have:=ac9 4294967296 h1;have:=h.lo;omega
 have:=h.YK;show R<(head/top+1)*V;omega
theorem Kn.small(h:Kn V R W top next head lo r0):R/V<4294967296:=by rw[adv h.Lb.1,acu];exact h.rv
theorem Kn.less(h:Kn V R W top next head lo r0)(hg:cz*top+rest=head)(hc:rest*4294967296+lo<cz*next):R/V<cz:=by
 rw[adv h.Lb.1];have h2:cz*((top*4294967296+next)*W)≤cz*V:=ac2 _ h.v1;have h3:(head*4294967296+lo+1)*W≤cz*((top*4294967296+next)*W):=by rw[←ace];refine ac9 _ ?_;rw[ac6,←ace,←hg,acv];omega
 have:=h.YK;omega
theorem Kn.fits(h:Kn V R W top next head lo r0)(hg:cz*top+rest=head)(hr:4294967296≤rest):cz<4294967296:=by
 refine Nat.lt_of_not_le fun Aa => ?_
 have h1:4294967296*top≤cz*top:=ac9 _ Aa;have h2:(head*4294967296)*W≤R:=by rw[h.r,acv];omega
 have h3:(4294967296*top+4294967296)*4294967296*W≤head*4294967296*W:=ac9 _ (ac9 _ (by omega));have h4:V*4294967296<(top*4294967296+next+1)*W*4294967296:=ae4 h.v2 (by omega);have h5:(top*4294967296+next+1)*W*4294967296≤(4294967296*top+4294967296)*W*4294967296:=ac9 _ (ac9 _ (by have:=h.next;omega));have h6:(4294967296*top+4294967296)*W*4294967296=(4294967296*top+4294967296)*4294967296*W:=by rw[Nat.mul_right_comm]
 have:=h.rv;omega
theorem Kn.WJ(h:Kn V R W top next head lo r0)(hg:cz*top+rest=head)(hl:cz<4294967296)(hc:4294967296≤rest∨cz*next≤rest*4294967296+lo):cz≤R/V+1:=by
 have hv:=h.Lb.1;cases cz with
 |zero=>exact adz _
 |succ g =>
  refine Nat.succ_le_succ ?_;rw[Nat.le_div_iff_mul_le hv];have h0:(g+1)*V≤(g+1)*((top*4294967296+next+1)*W):=ac2 _ (aeT h.v2);have h1:(g+1)*((top*4294967296+next+1)*W)=((g+1)*top*4294967296+(g+1)*next+(g+1))*W:=by rw[←ace,ac6,ac6,adk,ace (g+1) top]
  have h2:=h.Lb.2;have h3:(g+1)*V=g*V+V:=by rw[acv,aef]
  have hr:(head*4294967296+lo)*W≤R:=by rw[h.r];omega
  rcases hc with hc|hc
  ·have h4:((g+1)*top*4294967296+(g+1)*next+(g+1))*W≤(head*4294967296+lo)*W:=by
    refine ac9 _ ?_;have h5:(g+1)*next+(g+1)≤(g+1)*4294967296:=by have:=ac2 (g+1) (show next+1≤4294967296 by have:=h.next;omega);rw[ac6,adk] at this;exact this
    rw[←hg,acv];omega
   omega
  ·have h4:((g+1)*top*4294967296+(g+1)*next+(g+1))*W≤(head*4294967296+lo+4294967296)*W:=by
    refine ac9 _ ?_;rw[←hg,acv];omega
   rw[acv _ 4294967296] at h4;omega
end
namespace eJ
theorem NC(u:Words)(j n:Nat)(h:j+n≤u.length):nat (u.drop j)=nat ((u.drop j).take n)+4294967296^n*nat (u.drop (j+n)):=by have:=jg (u.drop j) n (by simp;omega);rw[aex] at this;exact this
theorem Lc(U:Words)(n:Nat)(h:U.length=n+3){a b c:UInt32}(ha:U[n]? = some a)(hb:U[n+1]? = some b)(hc:U[n+2]? = some c) :
  nat U=((c.toNat*4294967296+b.toNat)*4294967296+a.toNat)*4294967296^n+nat (U.take n):=by
 have h1:=cH hc;have h2:=cH hb;have h3:=cH ha;rw[bA (by omega)] at h1;rw[h1,h2,h3];have e1:(4294967296:Nat)^(n+1)=4294967296^n*4294967296:=acb ..;have e2:(4294967296:Nat)^(n+2)=4294967296^n*4294967296*4294967296:=by rw[acb,e1]
 rw[e1,e2];generalize (4294967296:Nat)^n=P;grind
theorem Ld(U:Words)(n:Nat)(h:U.length=n+2){a b:UInt32}(ha:U[n]? = some a)(hb:U[n+1]? = some b) :
  nat U=(b.toNat*4294967296+a.toNat)*4294967296^n+nat (U.take n):=by
 have h2:=cH hb;have h3:=cH ha;rw[bA (by omega)] at h2;rw[h2,h3];have e1:(4294967296:Nat)^(n+1)=4294967296^n*4294967296:=acb ..;rw[e1];generalize (4294967296:Nat)^n=P;grind
structure Dv (a b zb v:Words) (v1 v2:UInt32) (s n m V N:Nat):Prop where
 hv:v=zb.take b.length
 D3:s<32
 JA:a.length≤2199023255551
 hm:a.length+1=m+(n+2)
 En:v.length=n+2
 ND:nat v=V
 zg:V<4294967296^(n+2)
 NG:0<V
 Ho:v[n+1]? = some v1
 Hp:v[n]? = some v2
 Ic:V=(v1.toNat*4294967296+v2.toNat)*4294967296^n+nat (v.take n)
 Mw:nat (v.take n)<4294967296^n
 FC:0<v1.toNat
 res:∀q r:Nat,N=q*V+r→r<V→nat a/nat b=q∧r/2^s=nat a%nat b
structure Pt (u U A C:Words) (n j R Q V:Nat):Prop where
 JB:U.length=n+3
 NH:A.length=j
 hu:u=A++(U++C)
 zh:R=nat U
 hQ:R/V=Q
 Qy:nat C=0
 hR:R=nat (u.drop j)
 hj:j+(n+3)≤u.length
 yT:u.length≤2199023255552
theorem S5{g Q V R r P x:Nat}(Ib:Q*V+r=R)(hx:x<P)(h2:x+g*V=R+P)(UK:Q≤g)(UL:g≤Q+1):g=Q+1∧x+V=r+P:=by
 rcases Nat.lt_or_ge Q g with h5|h5
 ·have h6:g=Q+1:=by omega
  rw[h6,acv,aef] at h2;exact⟨h6,by omega⟩
 ·have h6:g=Q:=by omega
  rw[h6] at h2;omega
theorem S6{ca V r P x y:Nat}(h:y+P*ca=x+V)(hy:y<P)(h2:x+V=r+P)(hc:ca≤1):y=r:=by
 have RD:ca=0∨ca=1:=by omega
 rcases RD with rfl|rfl
 ·omega
 ·omega
theorem NI {a b zb v u U A C : Words} {v1 v2 : UInt32} {s n m V N j R Q : Nat} (dv : Dv a b zb v v1 v2 s n m V N) (pt : Pt u U A C n j R Q V) :
    ∀ cz : Nat, cz < 4294967296 → Q ≤ cz → cz ≤ Q + 1 → ∃ (U1 : Words) (bo : Bool) (U2 : Words), U1.length = n + 3 ∧
          ag aV 148 [.row 100000 (0 + j * 1) (j + (n + 3) - j) 1, .pv (af (zb.take b.length)), .pv (vU cz)] [(100000, .pure ((u : List UInt32).map aE).flatten)] (.pv (vB bo)) [(100000, .pure (((A ++ (U1 ++ C) : List UInt32)).map aE).flatten)] ∧
          (bo = false → cz = Q ∧ nat U1 = R % V) ∧
          (bo = true → cz = Q + 1 ∧ 0 < cz ∧ U2.length = n + 3 ∧ nat U2 = R % V ∧
            ag aV 149 [.row 100000 (0 + j * 1) (j + (n + 3) - j) 1, .pv (af (zb.take b.length))] [(100000, .pure (((A ++ (U1 ++ C) : List UInt32)).map aE).flatten)] (.pv (.bg [])) [(100000, .pure (((A ++ (U2 ++ C) : List UInt32)).map aE).flatten)]) := by
  obtain ⟨hv, D3, JA, hm, En, ND, zg, NG, Ho, Hp, Ic, Mw, FC, res⟩ := dv;obtain ⟨JB, NH, hu, zh, hQ, Qy, hR, hj, yT⟩ := pt;have Ie : (4294967296 : Nat) ^ (n + 3) = 4294967296 ^ (n + 2) * 4294967296 := acb ..;intro cz YL UK UL;have Ib := adl R V;rw [hQ] at Ib;have YM := adB R NG;rw [acu] at Ib;rw [← hv];obtain ⟨U1, bo, r1, ⟨YN, UM⟩, r3⟩ := remove A U C v cz (0 + j * 1) (j + (n + 3) - j) (by omega) (by omega) (by omega) YL (by rw [ND, JB, Ie];have h5 := Nat.mul_lt_mul_of_pos_left zg (show 0 < 4294967296 by omega);have h6 := ac9 V (aeT YL);rw [acu (4294967296 ^ (n + 2))]; omega) (by omega)
  rw [ND, ← zh] at YN UM;rw [JB] at UM;have WK := ez U1;rw [r1, JB] at WK;obtain ⟨U2, ca, b1, b2, b3, b4⟩ := back A U1 C v (0 + j * 1) (j + (n + 3) - j) (by omega) (by omega) (by omega) (by omega);rw [ND, r1, JB] at b3;have WL := ez U2;rw [b1, r1, JB] at WL;have hVP : V < 4294967296 ^ (n + 3) := by have := ad8 (n := 4294967296) (by omega) (show n + 2 ≤ n + 3 by omega);exact ac4 zg this
  clear Ie zg Mw Ic res;generalize (4294967296 : Nat) ^ (n + 3) = P3 at UM WK b3 WL hVP;refine ⟨U1, bo, U2, by omega, by rw [show La A U C = .pure ((u : List UInt32).map aE).flatten from by rw [hu]] at r3; exact r3, fun S4 => ?_, fun S4 => ?_⟩
  · have r2 := YN S4;have : cz = Q := by
      rcases Nat.lt_or_ge (Q) cz with h5 | h5
      · have h6 : cz = Q + 1 := by omega
        rw [h6, acv, aef] at r2;omega
      · omega
    rw [this] at r2;exact ⟨this, by omega⟩
  · have r2 := UM S4;obtain ⟨g1, g2⟩ := S5 Ib WK r2 UK UL;exact ⟨g1, by rw [g1]; exact Nat.succ_pos _, b1.trans (r1.trans JB), S6 b3 WL g2 b2, b4⟩
theorem Le{a b zb v u q U A C:Words}{v1 v2:UInt32}{s n m V N j R Q:Nat}(dv:Dv a b zb v v1 v2 s n m V N)(pt:Pt u U A C n j R Q V)(Uh:j+1≤m)(yT:u.length=a.length+1)(ER:q.length=m)(hA:nat u=nat A+4294967296^j*R)
  (hinv:N=nat (q.drop (j+1))*4294967296^(j+1)*V+nat u)
  (ih:∀(u q:Words),u.length=a.length+1→q.length=m→nat (u.drop j)<V→N=nat (q.drop j)*4294967296^j*V+nat u →
   bU.ay (s:Int) zb b (a.length+1) m v1 v2 ((j:Int)-1) u q (.bg [af (words (nat a/nat b)),af (words (nat a%nat b))])) (U2:Words) (w:UInt32) (Rk:U2.length=n+3) (M9:nat U2=R%V) (hw:w.toNat=Q) :
  bU.ay (s:Int) zb b (a.length+1) m v1 v2 ((j:Int)-1) (A++(U2++C)) (q.set j w) (.bg [af (words (nat a/nat b)),af (words (nat a%nat b))]):=by
 have NG:=dv.NG;obtain⟨JB,NH,hu,zh,hQ,Qy,hR,hj,_⟩:=pt;have Er:(A++(U2++C)).drop j=U2++C:=by rw[←NH];exact List.drop_left
 have S7:nat (U2++C)=R%V:=by rw[mU,Qy,M9];simp
 refine ih _ _ ?_ (by simpa using ER) (by rw[Er,S7];exact adB _ NG) ?_
 ·have h5:u.length=(A++(U++C)).length:=by rw[←hu]
  simp only[List.length_append] at h5 ⊢;omega
 ·have h5:nat (A++(U2++C))=nat A+4294967296^j*(R%V):=by rw[mU,S7,NH]
  have h7:nat ((q.set j w).drop j)=Q+4294967296*nat (q.drop (j+1)):=by rw[qQ (v:=w) (by rw[aes (by omega)]),List.drop_set_of_lt (by omega),hw]
  rw[h5,h7,hinv,hA];have h8:=adl R V;rw[hQ] at h8;have e1:(4294967296:Nat)^(j+1)=4294967296^j*4294967296:=acb ..;rw[e1];generalize (4294967296:Nat)^j=P at *;generalize nat (q.drop (j+1))=X at *;generalize R%V=r at *;rw[←h8];clear h8 hj hu zh hR hinv hA h5 h7 e1;grind
theorem Jf{a b zb v u q U A C:Words}{v1 v2 lo:UInt32}{s n m V N j R Q head r0:Nat}(dv:Dv a b zb v v1 v2 s n m V N)(pt:Pt u U A C n j R Q V)(kn:Kn V R (4294967296^n) v1.toNat v2.toNat head lo.toNat r0)(Uh:j+1≤m)(yT:u.length=a.length+1)(ER:q.length=m)(Gt:U[n]? = some lo)
  (next:∀(U2:Words) (w:UInt32),U2.length=n+3→nat U2=R%V→w.toNat=Q →
   bU.ay (s:Int) zb b (a.length+1) m v1 v2 ((j:Int)-1) (A++(U2++C)) (q.set j w) (.bg [af (words (nat a/nat b)),af (words (nat a%nat b))])) :
  ∀(k cz rest:Nat),4294967296-rest≤k→rest<18446744073709551616-4294967296→cz*v1.toNat+rest=head→Q≤cz→cz<18446744073709551616 →
   bU.bS (s:Int) zb b (a.length+1) m v1 v2 (((j+1:Nat):Int)-1) j (j+(n+3)) cz rest u q (.bg [af (words (nat a/nat b)),af (words (nat a%nat b))]):=by
 have fin:=NI dv pt;obtain⟨hv,D3,JA,hm,En,ND,zg,NG,Ho,Hp,Ic,Mw,FC,res⟩:=dv;obtain⟨JB,NH,hu,zh,hQ,Qy,hR,hj,_⟩:=pt;have Qx:=lj lo;have WM:=lj v1;have WN:=lj v2;have xE:(zb.take b.length).length=n+2:=by rw[←hv];exact En
 have Jg:(2:Nat)^min 32 64=4294967296:=by decide
 have kU:∀(k:Nat) (w:UInt32),U[k]? = some w→u[(0+j*1)+k]? = some w:=fun k w hk=>by rw[hu,acw,adk,←NH];exact gu A U C k w hk
 have Lf:=kn.small;rw[hQ] at Lf;have S8:∀{g r:Nat},g*v1.toNat+r=head→r*4294967296+lo.toNat<g*v2.toNat→Q<g:=fun h1 h2=>by rw[←hQ];exact kn.less h1 h2
 have Lg:∀{g r:Nat},g*v1.toNat+r=head→g<4294967296→(4294967296≤r∨g*v2.toNat≤r*4294967296+lo.toNat)→g≤Q+1:=fun h1 h2 h3=>by rw[←hQ];exact kn.WJ h1 h2 h3
 clear zg Mw Ic res zh hR;intro k
 induction k with
 |zero =>
  intro cz rest hk S9 hg hq UK;have hr:4294967296≤rest:=by omega
  have Hq:=kn.fits hg hr;obtain⟨U1,bo,U2,f1,f2,f3,f4⟩:=fin cz Hq hq (Lg hg Hq (.inl hr));cases bo with
  |false =>obtain⟨g1,g2⟩:=f3 rfl;obtain⟨w,hw⟩:=kd cz Hq;refine bU.YC (s:Int) zb b (a.length+1) m v1 v2 _ j (j+(n+3)) cz rest u q _ false w j hr f2 rfl (by omega) (by omega) (by omega) (by omega) (by unfold bf;omega) ?_;rw[show (((j+1:Nat):Int)-1-1)=(j:Int)-1 from by omega];exact next U1 w f1 g2 (by omega)
  |true =>obtain⟨g1,g0,g2,g3,g4⟩:=f4 rfl;obtain⟨w,hw⟩:=kd (cz-1) (by omega);refine bU.UF (s:Int) zb b (a.length+1) m v1 v2 _ j (j+(n+3)) cz rest u q _ true (cz-1) _ w j hr f2 rfl (by omega) g4 (by omega) (by omega) (by omega) (by omega) (by unfold bf;omega) ?_;rw[show (((j+1:Nat):Int)-1-1)=(j:Int)-1 from by omega];exact next U2 w g2 g3 (by omega)
 |succ k Ta =>
  intro cz rest hk S9 hg hq UK;by_cases hr:4294967296≤rest
  ·have Hq:=kn.fits hg hr;obtain⟨U1,bo,U2,f1,f2,f3,f4⟩:=fin cz Hq hq (Lg hg Hq (.inl hr));cases bo with
   |false =>obtain⟨g1,g2⟩:=f3 rfl;obtain⟨w,hw⟩:=kd cz Hq;refine bU.YC (s:Int) zb b (a.length+1) m v1 v2 _ j (j+(n+3)) cz rest u q _ false w j hr f2 rfl (by omega) (by omega) (by omega) (by omega) (by unfold bf;omega) ?_;rw[show (((j+1:Nat):Int)-1-1)=(j:Int)-1 from by omega];exact next U1 w f1 g2 (by omega)
   |true =>obtain⟨g1,g0,g2,g3,g4⟩:=f4 rfl;obtain⟨w,hw⟩:=kd (cz-1) (by omega);refine bU.UF (s:Int) zb b (a.length+1) m v1 v2 _ j (j+(n+3)) cz rest u q _ true (cz-1) _ w j hr f2 rfl (by omega) g4 (by omega) (by omega) (by omega) (by omega) (by unfold bf;omega) ?_;rw[show (((j+1:Nat):Int)-1-1)=(j:Int)-1 from by omega];exact next U2 w g2 g3 (by omega)
  have Un:=Lf;have step:∀(Qz:Q<cz),(cz-1)*v1.toNat+(rest+v1.toNat)=head:=by
   intro Qz;have:cz=(cz-1)+1:=by omega
   rw[this,acv,aef] at hg;omega
  by_cases UL:4294967296≤cz
  ·refine bU.yn (s:Int) zb b (a.length+1) m v1 v2 _ j (j+(n+3)) cz rest u q (cz-1) (rest+v1.toNat) (by omega) UL (by omega) (by omega) ?_;exact Ta (cz-1) (rest+v1.toNat) (by omega) (by omega) (step (by omega)) (by omega) (by omega)
  ·have IS:cz*v2.toNat<18446744073709551616:=by have:=Bn (show cz<4294967296 by omega) WN;omega
   have Nv:rest*2^min 32 64%18446744073709551616%18446744073709551616 ||| lo.toNat%18446744073709551616=rest*4294967296+lo.toNat:=by rw[Jg,afl];exact D2 (by omega) Qx
   by_cases hc:rest*4294967296+lo.toNat<cz*v2.toNat
   ·have Qz:=S8 hg hc;refine bU.zf (s:Int) zb b (a.length+1) m v1 v2 _ j (j+(n+3)) cz rest u q (cz*v2.toNat) _ n lo (rest*4294967296+lo.toNat) (cz-1) (rest+v1.toNat) (by omega) (by omega) (acg IS) rfl (by rw[xE];unfold bf;omega) (by rw[xE];omega) (by omega) (kU n lo Gt) Nv hc (by omega) (by omega) ?_;exact Ta (cz-1) (rest+v1.toNat) (by omega) (by omega) (step Qz) (by omega) (by omega)
   ·obtain⟨U1,bo,U2,f1,f2,f3,f4⟩:=fin cz (by omega) hq (Lg hg (by omega) (.inr (by omega)));cases bo with
    |false =>obtain⟨g1,g2⟩:=f3 rfl;obtain⟨w,hw⟩:=kd cz (by omega);refine bU.SM (s:Int) zb b (a.length+1) m v1 v2 _ j (j+(n+3)) cz rest u q (cz*v2.toNat) _ n lo (rest*4294967296+lo.toNat) _ false w j (by omega) (by omega) (acg IS) rfl (by rw[xE];unfold bf;omega) (by rw[xE];omega) (by omega) (kU n lo Gt) Nv (by omega) f2 rfl (by omega) (by omega) (by omega) (by omega) (by unfold bf;omega) ?_;rw[show (((j+1:Nat):Int)-1-1)=(j:Int)-1 from by omega];exact next U1 w f1 g2 (by omega)
    |true =>obtain⟨g1,g0,g2,g3,g4⟩:=f4 rfl;obtain⟨w,hw⟩:=kd (cz-1) (by omega);refine bU.Rz (s:Int) zb b (a.length+1) m v1 v2 _ j (j+(n+3)) cz rest u q (cz*v2.toNat) _ n lo (rest*4294967296+lo.toNat) _ true (cz-1) _ w j (by omega) (by omega) (acg IS) rfl (by rw[xE];unfold bf;omega) (by rw[xE];omega) (by omega) (kU n lo Gt) Nv (by omega) f2 rfl (by omega) g4 (by omega) (by omega) (by omega) (by omega) (by unfold bf;omega) ?_;rw[show (((j+1:Nat):Int)-1-1)=(j:Int)-1 from by omega];exact next U2 w g2 g3 (by omega)
set_option maxHeartbeats 1000000 in
theorem Lh{a b zb v u q:Words}{v1 v2:UInt32}{s n m V N j:Nat}(dv:Dv a b zb v v1 v2 s n m V N)(hj:j+1≤m)(yT:u.length=a.length+1)(ER:q.length=m)(Hr:nat (u.drop (j+1))<V)(hinv:N=nat (q.drop (j+1))*4294967296^(j+1)*V+nat u)
  (ih:∀(u q:Words),u.length=a.length+1→q.length=m→nat (u.drop j)<V→N=nat (q.drop j)*4294967296^j*V+nat u →
   bU.ay (s:Int) zb b (a.length+1) m v1 v2 ((j:Int)-1) u q (.bg [af (words (nat a/nat b)),af (words (nat a%nat b))])) :
  bU.ay (s:Int) zb b (a.length+1) m v1 v2 (((j+1:Nat):Int)-1) u q (.bg [af (words (nat a/nat b)),af (words (nat a%nat b))]):=by
 have D3:=dv.D3;have JA:=dv.JA;have hm:=dv.hm;have En:=dv.En;have zg:=dv.zg;have Ic:=dv.Ic;have Mw:=dv.Mw;have FC:=dv.FC;have hv:=dv.hv;obtain⟨U,hU⟩:∃U,U=(u.drop j).take (n+3):=⟨_,rfl⟩;obtain⟨A,hA⟩:∃A,A=u.take j:=⟨_,rfl⟩;obtain⟨C,hC⟩:∃C,C=u.drop (j+(n+3)):=⟨_,rfl⟩;have JB:U.length=n+3:=by rw[hU];simp;omega
 have NH:A.length=j:=by rw[hA];simp;omega
 have hu:u=A++(U++C):=by rw[hA,hU,hC,show j+(n+3)=j+(n+3) from rfl,←aex,ad1,ad1]
 obtain⟨R,hR⟩:∃R,R=nat (u.drop j):=⟨_,rfl⟩;obtain⟨x,hx⟩:∃x,u[j]? = some x:=⟨_,abJ (by omega)⟩;have Tb:R<V*4294967296:=by rw[hR,qQ hx];have h2:=lj x;omega
 have zh:=NC u j (n+3) (by omega);rw[←hU,←hC,←hR] at zh;have Ie:(4294967296:Nat)^(n+3)=4294967296^(n+2)*4294967296:=acb ..;have Qy:nat C=0:=by
  refine acG fun hp => ?_
  have h2:=ac2 (4294967296^(n+3)) hp;omega
 rw[Qy,afh,ad0] at zh;obtain⟨hi,YO⟩:∃x,U[n+2]? = some x:=⟨_,abJ (by omega)⟩;obtain⟨mi,YP⟩:∃x,U[n+1]? = some x:=⟨_,abJ (by omega)⟩;obtain⟨lo,Gt⟩:∃x,U[n]? = some x:=⟨_,abJ (by omega)⟩;have h3:=Lc U n JB Gt YP YO;have WO:=ez (U.take n);rw[ac8,acQ (by omega)] at WO;obtain⟨head,ON⟩:∃h,h=hi.toNat*4294967296+mi.toNat:=⟨_,rfl⟩;rw[←ON,←zh] at h3;have kn:Kn V R (4294967296^n) v1.toNat v2.toNat head lo.toNat (nat (U.take n)) :=
  ⟨by rw[Ic];omega,by rw[Ic,acv _ 1,aef];omega,h3,WO,lj lo,lj v2,FC,Tb⟩
 obtain⟨Q,hQ⟩:∃Q,R/V=Q:=⟨_,rfl⟩;have Li:=kn.start;rw[hQ] at Li;have pt:Pt u U A C n j R Q V:=⟨JB,NH,hu,zh,hQ,Qy,hR,by omega,by omega⟩;have YQ:nat u=nat A+4294967296^j*R:=by have:=jg u j (by omega);rw[←hA,←hR] at this;exact this
 have WQ:=lj hi;have WR:=lj mi;have Qx:=lj lo;have WM:=lj v1;have xE:(zb.take b.length).length=n+2:=by rw[←hv];exact En
 have Jg:(2:Nat)^min 32 64=4294967296:=by decide
 have kU:∀(k:Nat) (w:UInt32),U[k]? = some w→u[(0+j*1)+k]? = some w:=fun k w hk=>by rw[hu,acw,adk,←NH];exact gu A U C k w hk
 have inner:=Jf dv pt kn hj yT ER Gt (Le dv pt hj yT ER YQ hinv ih);clear zg Mw Ic zh Ie h3 WO Tb Hr hinv YQ ih;have hhl:head<18446744073709551616:=by omega
 have hdl:head/v1.toNat≤head:=acJ _ _;have YM:=adB head FC;have hz:(hi.toNat*2^min 32 64)%18446744073709551616%18446744073709551616 ||| mi.toNat%18446744073709551616=head:=by rw[Jg,afl,ON];exact D2 WQ WR
 refine bU.eu (s:Int) zb b (a.length+1) m v1 v2 _ u q j (j+(n+3)) hi _ (n+1) mi head (head/v1.toNat) (head%v1.toNat) (by omega) (by rw[xE];unfold bf;omega) (by rw[xE];unfold bf;omega) (by omega) (by rw[xE];omega) (by omega) (by omega) (by omega) (by rw[xE];omega)
  (by rw[xE];exact kU (n+2) hi YO) rfl (by rw[xE];unfold bf;omega) (by rw[xE];omega) (by omega) (kU (n+1) mi YP) hz (by omega) (by rw[acg (by omega)]) rfl ?_
 refine inner 4294967296 _ _ (by omega) (by omega) ?_ Li (by omega);have:=adl head v1.toNat;rw[acu] at this;exact this
set_option maxHeartbeats 1000000 in
theorem Lj(a b:Words)(ha:cn a=true)(hb:cn b=true)(nZ:b≠[])(JA:a.length≤2199023255551)(OK:b.length≤2199023255552) :
  Cp 106 [af a,af b] (.bg [af (words (nat a/nat b)),af (words (nat a%nat b))]):=by
 have Tc:0<nat b:=qt hb nZ;have D4:=compare a b ha hb (by omega);by_cases cT:nat a<nat b
 ·rw[rU (by omega)] at D4;rw[aeD cT,acg cT];exact bU.e0 a b (-1) _ D4 (by omega) (trim a (by omega))
 have QA:0≤eM (nat a) (nat b):=by unfold eM;split<;>(try split)<;>omega
 by_cases h1:b.length=1
 ·obtain⟨v,rfl⟩:∃v,b=[v]:=List.length_eq_one_iff.1 h1;have hn:nat [v]=v.toNat:=by simp[nat]
  rw[hn] at Tc QA D4 ⊢;have hs:=short a v (by omega) (by omega);have ht:=trim [UInt32.ofNat (nat a%v.toNat)] (by simp);have M9:nat [UInt32.ofNat (nat a%v.toNat)]=nat a%v.toNat:=by have:=adB (nat a) Tc;have:=lj v;simp only[nat,w6];omega
  rw[M9] at ht;exact bU.e1 a [v] _ v _ _ _ D4 QA rfl rfl hs ht
 obtain⟨n,hn⟩:∃n,b.length=n+2:=⟨b.length-2,by have:=aee.2 nZ;omega⟩;obtain⟨bt,WT⟩:∃v,b[n+1]? = some v:=⟨_,abJ (by omega)⟩;have WU:bt.toNat≠0:=(me (by rw[hn];exact WT)).1 hb;have aag:=pZ (n:=bt.toNat) (k:=32) (lj bt);obtain⟨kb,hkb,aah,aai⟩:=xN WU;obtain⟨s,hs⟩:∃s,s=32-blen bt.toNat:=⟨_,rfl⟩;have D3:s<32:=by omega
 obtain⟨zb,aaj,WV,WW,_⟩:=up b s OK D3;obtain⟨za,WX,Td,_,WY⟩:=up a s (by omega) D3;have hP:=acU s;have Te:nat b<4294967296^(n+1)*2^(kb+1):=by have h2:=cH WT;rw[bA (by omega)] at h2;have h3:=ez (b.take (n+1));rw[ac8,acQ (by omega)] at h3;have h4:=ac2 (4294967296^(n+1)) (show bt.toNat+1≤2^(kb+1) by omega);rw[ac6] at h4;omega
 have zg:nat b*2^s<4294967296^(n+2):=by
  have h2:=ae4 Te hP;have h3:2^(kb+1)*2^s=4294967296:=by rw[←aeu,show kb+1+s=32 from by omega]
  rw[ace,h3,←acb] at h2;exact h2
 obtain⟨v,hv⟩:∃v,v=zb.take b.length:=⟨_,rfl⟩;have En:v.length=n+2:=by rw[hv];simp;omega
 have ND:nat v=nat b*2^s:=by
  rw[←WV,hv];have h2:=jg zb b.length (by omega);have h3:nat (zb.drop b.length)=0:=by
   refine acG fun hp => ?_
   have:=ac2 (4294967296^b.length) hp;rw[hn] at this h2;omega
  rw[h3] at h2;omega
 obtain⟨V,hV⟩:∃V,V=nat b*2^s:=⟨_,rfl⟩;rw[←hV] at ND zg;have WZ:4294967296^(n+1)≤nat b:=by have:=FB hb nZ;rwa[hn] at this
 have W0:4294967296^(n+1)≤V:=by have:=ac2 (nat b) hP;omega
 have NG:0<V:=ac4 (Nat.pow_pos (by omega)) W0;obtain⟨v1,Ho⟩:∃x,v[n+1]? = some x:=⟨_,abJ (by omega)⟩;obtain⟨v2,Hp⟩:∃x,v[n]? = some x:=⟨_,abJ (by omega)⟩;have Ic:=Ld v n En Hp Ho;rw[ND] at Ic;have Mw:=ez (v.take n);rw[ac8,acQ (by omega)] at Mw;have FC:0<v1.toNat:=by
  refine aeq fun h0 => ?_
  rw[h0] at Ic;have h2:=lj v2;have h3:(v2.toNat+1)*4294967296^n≤4294967296*4294967296^n:=ac9 _ h2;have h4:(4294967296:Nat)^(n+1)=4294967296*4294967296^n:=by rw[acb,acu]
  rw[acv] at h3;simp at Ic;omega
 have Mp:b.length≤a.length:=by
  refine Nat.le_of_not_lt fun h => ?_
  have h2:=ez a;have h3:=jr (show a.length≤n+1 by omega);omega
 obtain⟨m,hm⟩:∃m,a.length+1=m+(n+2):=⟨a.length+1-(n+2),by omega⟩;obtain⟨N,hN⟩:∃N,N=nat a*2^s:=⟨_,rfl⟩;rw[←hN] at Td;have res:∀q r:Nat,N=q*V+r→r<V→nat a/nat b=q∧r/2^s=nat a%nat b:=by
  intro q r h2 h3;have h4:N/V=nat a/nat b:=by rw[hN,hV];exact Nat.mul_div_mul_right _ _ hP
  have h5:N%V=nat a%nat b*2^s:=by rw[hN,hV];exact Nat.mul_mod_mul_right _ _ _
  have h6:N/V=q:=by rw[h2,acu,aeM NG,aeD h3,ad0]
  have h7:N%V=r:=by rw[h2,acu,afg,acg h3]
  refine⟨by rw[←h4,h6],?_⟩;rw[←h7,h5,Nat.mul_div_cancel _ hP]
 have dv:Dv a b zb v v1 v2 s n m V N:=⟨hv,D3,JA,hm,En,ND,zg,NG,Ho,Hp,Ic,Mw,FC,res⟩;have loop:∀(jj:Nat) (u q:Words),jj≤m→u.length=a.length+1→q.length=m→nat (u.drop jj)<V→N=nat (q.drop jj)*4294967296^jj*V+nat u →
   bU.ay (s:Int) zb b (a.length+1) m v1 v2 ((jj:Int)-1) u q (.bg [af (words (nat a/nat b)),af (words (nat a%nat b))]):=by
  intro jj
  induction jj with
  |zero =>intro u q _ yT ER Hr hinv;simp only[List.drop_zero,Nat.pow_zero,Nat.mul_one] at hinv Hr;obtain⟨e1,e2⟩:=res _ _ hinv Hr;rw[e1,←e2];exact bU.dp (s:Int) zb b (a.length+1) m v1 v2 _ u q _ _ (by omega) ER.symm yT.symm (trim q (by omega)) (down u s (by omega) D3)
  |succ j ih =>intro u q hj yT ER Hr hinv;exact Lh dv hj yT ER Hr hinv (fun u q=>ih u q (by omega))
 have xE:(zb.take b.length).length=n+2:=by rw[←hv];exact En
 refine bU.e2 a b _ (n+1) bt (s:Int) zb za (a.length+1) m (n+1) v1 n v2 D4 QA h1 (by unfold bf;omega) (by omega) WT (by rw[hs];exact K9.Bq bt) WW (by omega) WY (by rw[xE];unfold bf;omega) (by rw[xE];omega) (by omega) (by rw[xE];unfold bf;omega) (by rw[xE];omega) (by rw[←hv];exact Ho) (by rw[xE];unfold bf;omega) (by rw[xE];omega) (by rw[←hv];exact Hp) (by unfold bf;omega) ?_;refine loop m za _ (abW _) WX (by simp) ?_ ?_
 ·
  have h2:=jg za m (by omega);refine Nat.lt_of_not_le fun h => ?_
  have h3:=ac2 (4294967296^m) h;have h4:4294967296^m*V≤N:=by omega
  have h5:nat a*2^s<4294967296^a.length*2^s:=ae4 (ez a) hP;have h6:4294967296^m*V=4294967296^m*nat b*2^s:=by rw[hV,ace]
  have h7:4294967296^a.length≤4294967296^m*nat b:=by have:=ac2 (4294967296^m) WZ;rw[←aeu,show m+(n+1)=a.length from by omega] at this;exact this
  have h8:=ac9 (2^s) h7;omega
 ·rw[acF (by simp),Td];simp[nat]
end eJ
end Go.Proofs.YtneklnlpgfeplaaGreat.Sym
namespace Go.Proofs.YtneklnlpgfeplaaGreat.Sym
open Go Path
set_option linter.unusedVariables false
abbrev wl(i:Int):Nat:=(words i.natAbs).length
theorem pj(i:Int):wl (-i)=wl i:=by unfold wl;rw[adW]
theorem Ll{i:Int}{k:Nat}(h:i.natAbs<4294967296^k):wl i≤k:=kZ h
theorem Ig(i:Int):i.natAbs<4294967296^wl i:=hX _
theorem D5(i j:Int):wl (i+j)≤max (wl i) (wl j)+1:=by refine Ll ?_;have h1:=Ig i;have h2:=Ig j;have h3:=jr (adw (wl i) (wl j));have h4:=jr (adm (wl i) (wl j));have h5:=Int.natAbs_add_le i j;rw[acb];omega
theorem kR(i j:Int):wl (i*j)≤wl i+wl j:=by refine Ll ?_;rw[adX,aeu];exact Nat.mul_lt_mul'' (Ig i) (Ig j)
theorem bI(a:aR):wl a.val≤a.db.length:=by unfold wl;rw[eJ.zF];cases a.valid<;>simp
namespace eJ
def qR(i:Int):Int:=eM i 0
theorem D6{i:Int}(h:i<0):qR i = -1:=rU h
theorem D7{i:Int}(h:0<i):qR i=1:=uj h
theorem Br:qR 0=0:=rfl
theorem Sign(a:aR)(h:Fit a.db):Cp 39 [a.pv] (vI (qR a.val)):=by
 have hm:=db a h;by_cases h0:a.val=0
 ·rw[h0,Br];exact og.e0 a _ hm (by rw[h0];rfl)
 ·have hl:(words a.val.natAbs).length≠0:=by rw[Ne,dm];omega
  have hv:a.valid=true:=by
   cases hv:a.valid with
   |true=>rfl
   |false=>exact absurd (by unfold aR.val;rw[hv];rfl) h0
  by_cases hn:a.val<0
  ·rw[D6 hn];have:=w8 a;rw[hv,acf hn] at this;exact og.e1 a _ hm hl (by simpa using this.symm)
  ·rw[D7 (by omega)];have:=w8 a;rw[hv,aci hn] at this;exact og.e2 a _ hm hl (by simpa using this.symm)
theorem Et(a b:aR)(ha:Fit a.db)(hb:Fit b.db):Cp 33 [a.pv,b.pv] (vI (eM a.val b.val)):=by
 have h1:=Sign a ha;have h2:=Sign b hb;have h3:=db a ha;have h4:=db b hb;have h5:=neg a ha;have la:=bI a;by_cases he:qR a.val=qR b.val
 ·have hc:=compare (words a.val.natAbs) (words b.val.natAbs) (iX _) (iX _) (by have:(words a.val.natAbs).length≤a.db.length:=la;omega);rw[aO,aO] at hc;unfold qR eM at he;by_cases hn:a.val<0
  ·have Oe:b.val<0:=by
    rw[ac7 hn] at he;split at he
    ·assumption
    ·split at he<;>omega
   have e:eM a.val b.val = -(eM (a.val.natAbs:Int) (b.val.natAbs:Int)):=by unfold eM;split<;>split<;>(try split)<;>(try split)<;>omega
   rw[e];refine nt.e2 a b _ _ _ _ _ _ h1 h2 (by unfold qR eM;exact he) h3 h4 hc h5 (acf hn) ?_;unfold bf eM;split<;>(try split)<;>omega
  ·have Oe:¬b.val<0:=by
    intro fc;rw[ac3 hn,ac7 fc] at he;split at he<;>omega
   have e:eM a.val b.val=eM (a.val.natAbs:Int) (b.val.natAbs:Int):=by unfold eM;split<;>split<;>(try split)<;>(try split)<;>omega
   rw[e];exact nt.e3 a b _ _ _ _ _ _ h1 h2 (by unfold qR eM;exact he) h3 h4 hc h5 (aci hn)
 ·by_cases cT:qR a.val<qR b.val
  ·rw[rU (by
    unfold qR eM at cT;split at cT<;>split at cT<;>(try split at cT)<;>(try split at cT)<;>omega)]
   exact nt.e0 a b _ _ h1 h2 he cT
  ·rw[uj (by
    unfold qR eM at cT he;split at cT<;>split at cT<;>(try split at cT)<;>(try split at cT)<;>(simp_all;try omega))]
   exact nt.e1 a b _ _ h1 h2 he (by omega)
theorem Neg(a:aR)(h:Fit a.db):Cp 73 [a.pv] (Sym.whole (-a.val)).pv:=by
 have h3:=db a h;have h5:=neg a h;have la:=bI a;have hw:=whole (!decide (a.val<0)) (words a.val.natAbs) (by have:(words a.val.natAbs).length≤a.db.length:=la;omega);have e:(bif !decide (a.val<0) then -(nat (words a.val.natAbs):Int) else (nat (words a.val.natAbs):Int)) = -a.val:=by
  rw[aO];by_cases h:a.val<0
  ·simp[h];omega
  ·simp[h];omega
 rw[e] at hw;exact yo.e0 a _ _ _ h5 h3 hw
theorem Add(a b:aR)(ha:Fit a.db)(hb:Fit b.db):Cp 105 [a.pv,b.pv] (Sym.whole (a.val+b.val)).pv:=by
 have h1:=db a ha;have h2:=db b hb;have h3:=neg a ha;have h4:=neg b hb;have la:(words a.val.natAbs).length≤a.db.length:=bI a;have lb:(words b.val.natAbs).length≤b.db.length:=bI b;by_cases hs:decide (a.val<0)=decide (b.val<0)
 ·have hp:=plus (words a.val.natAbs) (words b.val.natAbs) (by omega) (by omega);rw[aO,aO] at hp;have hl:=kZ (n:=a.val.natAbs+b.val.natAbs) (k:=max (words a.val.natAbs).length (words b.val.natAbs).length+1) (by
   have g1:=hX a.val.natAbs;have g2:=hX b.val.natAbs;have g3:=jr (adw (words a.val.natAbs).length (words b.val.natAbs).length);have g4:=jr (adm (words a.val.natAbs).length (words b.val.natAbs).length);rw[acb];omega)
  have hw:=whole (decide (a.val<0)) (words (a.val.natAbs+b.val.natAbs)) (by omega);rw[aO] at hw;have e:(bif decide (a.val<0) then -((a.val.natAbs+b.val.natAbs:Nat):Int) else ((a.val.natAbs+b.val.natAbs:Nat):Int))=a.val+b.val:=by
   by_cases h:a.val<0
   ·have:b.val<0:=by simpa[h] using hs.symm
    simp[h];omega
   ·have:¬b.val<0:=by simpa[h] using hs.symm
    simp[h];omega
  rw[e] at hw;exact pT.e0 a b _ _ _ _ _ _ _ h1 h2 h3 h4 hs h3 hp hw
 ·have hc:=compare (words a.val.natAbs) (words b.val.natAbs) (iX _) (iX _) (by omega);rw[aO,aO] at hc;by_cases Aa:b.val.natAbs≤a.val.natAbs
  ·have hl:=less (words a.val.natAbs) (words b.val.natAbs) (by omega) (by rw[aO,aO];exact Aa);rw[aO,aO] at hl;have hlen:=dg (show a.val.natAbs-b.val.natAbs≤a.val.natAbs by omega);have hw:=whole (decide (a.val<0)) (words (a.val.natAbs-b.val.natAbs)) (by omega);rw[aO] at hw;have e:(bif decide (a.val<0) then -((a.val.natAbs-b.val.natAbs:Nat):Int) else ((a.val.natAbs-b.val.natAbs:Nat):Int))=a.val+b.val:=by
    by_cases h:a.val<0
    ·have:¬b.val<0:=by simpa[h] using hs
     simp[h];omega
    ·have:b.val<0:=by simpa[h] using hs
     simp[h];omega
   rw[e] at hw;exact pT.e1 a b _ _ _ _ _ _ _ _ h1 h2 h3 h4 hs hc (by unfold eM;split<;>(try split)<;>omega) h3 hl hw
  ·have hl:=less (words b.val.natAbs) (words a.val.natAbs) (by omega) (by rw[aO,aO];omega);rw[aO,aO] at hl;have hlen:=dg (show b.val.natAbs-a.val.natAbs≤b.val.natAbs by omega);have hw:=whole (decide (b.val<0)) (words (b.val.natAbs-a.val.natAbs)) (by omega);rw[aO] at hw;have e:(bif decide (b.val<0) then -((b.val.natAbs-a.val.natAbs:Nat):Int) else ((b.val.natAbs-a.val.natAbs:Nat):Int))=a.val+b.val:=by
    by_cases h:b.val<0
    ·have:¬a.val<0:=by intro h';simp[h,h'] at hs
     simp[h];omega
    ·have:a.val<0:=by
      refine aco fun h' => ?_
      simp[h,h'] at hs
     simp[h];omega
   rw[e] at hw;exact pT.e2 a b _ _ _ _ _ _ _ _ h1 h2 h3 h4 hs hc (by unfold eM;split<;>(try split)<;>omega) h4 hl hw
theorem Mul(a b:aR)(ha:Fit a.db)(hb:Fit b.db):Cp 34 [a.pv,b.pv] (Sym.whole (a.val*b.val)).pv:=by
 have h1:=db a ha;have h2:=db b hb;have h3:=neg a ha;have h4:=neg b hb;have la:(words a.val.natAbs).length≤a.db.length:=bI a;have lb:(words b.val.natAbs).length≤b.db.length:=bI b;have ht:=times (words a.val.natAbs) (words b.val.natAbs) (by omega) (by omega);rw[aO,aO] at ht;have hl:(words (a.val.natAbs*b.val.natAbs)).length≤(words a.val.natAbs).length+(words b.val.natAbs).length:=by have:=kR a.val b.val;unfold wl at this;rw[adX] at this;exact this
 have hw:=whole (!(decide (a.val<0)==decide (b.val<0))) (words (a.val.natAbs*b.val.natAbs)) (by omega);rw[aO] at hw;have e:(bif !(decide (a.val<0)==decide (b.val<0)) then -((a.val.natAbs*b.val.natAbs:Nat):Int) else ((a.val.natAbs*b.val.natAbs:Nat):Int))=a.val*b.val:=by
  by_cases h:a.val<0<;>by_cases h':b.val<0<;>simp only[h,h',decide_true,decide_false,beq_self_eq_true,Bool.not_true,cond_false,Bool.not_false,cond_true,show(true==false)=false from rfl,show(false==true)=false from rfl]
  ·rw[←adX,aeF (Int.mul_nonneg_of_nonpos_of_nonpos (by omega) (by omega))]
  ·rw[←adX,aeO (Int.mul_nonpos_of_nonpos_of_nonneg (by omega) (by omega))];omega
  ·rw[←adX,aeO (Int.mul_nonpos_of_nonneg_of_nonpos (by omega) (by omega))];omega
  ·rw[←adX,aeF (Int.mul_nonneg (by omega) (by omega))]
 rw[e] at hw;exact yl.e0 a b _ _ _ _ _ _ h3 h4 h1 h2 ht hw
theorem Of(n:Int)(h:bf n):Cp 41 [vI n] (Sym.whole n).pv:=by
 obtain⟨g1,g2⟩:=h;have Jg:(2:Nat)^min 32 64=4294967296:=by decide
 have key:∀m:Nat,m=n.natAbs→∃w w1:UInt32,m%4294967296=w.toNat∧m/4294967296%4294967296=w1.toNat∧Cp 66 [(vB (decide (n<0))),(af [w,w1])] (Sym.whole n).pv:=by
  intro m hm;obtain⟨w,hw⟩:=kd (m%4294967296) (by omega);obtain⟨w1,Mt⟩:=kd (m/4294967296%4294967296) (by omega);refine⟨w,w1,hw.symm,Mt.symm,?_⟩;have:=whole (decide (n<0)) [w,w1] (by simp);have e:nat [w,w1]=m:=by simp only[nat,hw,Mt];omega
  rw[e,hm] at this;have e2:(bif decide (n<0) then -(n.natAbs:Int) else (n.natAbs:Int))=n:=by
   by_cases h:n<0
   ·simp[h];omega
   ·simp[h];omega
  rw[e2] at this;exact this
 by_cases hn:n<0
 ·obtain⟨w,w1,q1,q2,q3⟩:=key n.natAbs rfl;exact vz.e0 n (n%18446744073709551616).toNat n.natAbs w _ w1 _ (by omega) hn (by omega) q1 (by rw[Jg]) q2 q3
 ·obtain⟨w,w1,q1,q2,q3⟩:=key n.natAbs rfl;exact vz.e1 n n.natAbs w _ w1 _ (by omega) (by omega) q1 (by rw[Jg]) q2 q3
theorem Div(a b:aR)(ha:Fit a.db)(hb:Fit b.db)(h0:b.val≠0) :
  Cp 74 [a.pv,b.pv] (.bg [(Sym.whole (a.val/b.val)).pv,(Sym.whole (a.val%b.val)).pv,.ar]):=by
 have h1:=db a ha;have h2:=db b hb;have h3:=neg a ha;have h4:=neg b hb;have la:(words a.val.natAbs).length≤a.db.length:=bI a;have lb:(words b.val.natAbs).length≤b.db.length:=bI b;have Hn:(words b.val.natAbs).length≠0:=by rw[Ne,dm];omega
 have Tc:0<b.val.natAbs:=by omega
 have hd:=Lj (words a.val.natAbs) (words b.val.natAbs) (iX _) (iX _) (by intro e;rw[e] at Hn;simp at Hn) (by omega) (by omega);rw[aO,aO] at hd;have hq:=dg (acJ a.val.natAbs b.val.natAbs);have hr:=dg (aeT (adB a.val.natAbs Tc));have Ib:=adl a.val.natAbs b.val.natAbs;have YM:=adB a.val.natAbs Tc;generalize hQ:a.val.natAbs/b.val.natAbs=q at *;generalize hR:a.val.natAbs%b.val.natAbs=r at *;have sb:b.val=if b.val<0 then -(b.val.natAbs:Int) else (b.val.natAbs:Int):=by split<;>omega
 have uniq:∀x y:Int,a.val=b.val*x+y→0≤y→y<b.val.natAbs→a.val/b.val=x∧a.val%b.val=y:=by
  intro x y e1 e2 e3;rcases Int.lt_or_gt_of_ne h0 with fc|fc
  ·exact(Int.ediv_emod_unique' fc).2 ⟨by omega,e2,by omega⟩
  ·exact(Int.ediv_emod_unique fc).2 ⟨by omega,e2,by omega⟩
 by_cases hn:a.val<0
 ·by_cases Mn:r=0
  ·have hw:=whole (!(decide (a.val<0)==decide (b.val<0))) (words q) (by omega);have GD:=whole false (words r) (by omega);rw[aO] at hw GD;subst Mn;have e:a.val/b.val=(bif !(decide (a.val<0)==decide (b.val<0)) then -(q:Int) else (q:Int))∧a.val%b.val=0:=by
    refine uniq _ 0 ?_ (by omega) (by omega);have B2:(a.val.natAbs:Int)=(b.val.natAbs:Int)*q:=by rw[←Ib];simp
    by_cases h':b.val<0
    ·simp only[hn,h',decide_true,beq_self_eq_true,Bool.not_true,cond_false];have:(b.val.natAbs:Int) = -b.val:=by omega
     rw[this] at B2;have:(a.val.natAbs:Int) = -a.val:=by omega
     rw[this,Int.neg_mul] at B2;omega
    ·simp only[hn,h',decide_true,decide_false,show(true==false)=false from rfl,Bool.not_false,cond_true];have:(b.val.natAbs:Int)=b.val:=by omega
     rw[this] at B2;have:(a.val.natAbs:Int) = -a.val:=by omega
     rw[this] at B2;rw[Int.mul_neg];omega
   rw[e.1,e.2];exact pS.e2 a b _ _ _ _ _ _ _ _ _ h2 Hn h1 hd h3 (acf hn) (by rw[fw];simp) h3 h4 hw GD
  ·have hp:=plus (words q) [1] (by omega) (by simp);have hl:=less (words b.val.natAbs) (words r) (by omega) (by rw[aO,aO];omega);rw[aO] at hp;rw[aO,aO] at hl;have e1:nat [1]=1:=rfl;rw[e1] at hp;have IC:=kZ (n:=q+1) (k:=(words q).length+1) (by have:=hX q;rw[acb];omega);have Rk:=dg (show b.val.natAbs-r≤b.val.natAbs by omega);have hw:=whole (!(decide (a.val<0)==decide (b.val<0))) (words (q+1)) (by omega);have GD:=whole false (words (b.val.natAbs-r)) (by omega);rw[aO] at hw GD;have e:a.val/b.val=(bif !(decide (a.val<0)==decide (b.val<0)) then -((q+1:Nat):Int) else ((q+1:Nat):Int))∧a.val%b.val=((b.val.natAbs-r:Nat):Int):=by
    refine uniq _ _ ?_ (by omega) (by omega);have B2:(a.val.natAbs:Int)=(b.val.natAbs:Int)*q+r:=by rw[←Ib];simp
    by_cases h':b.val<0
    ·simp only[hn,h',decide_true,beq_self_eq_true,Bool.not_true,cond_false];have e5:(b.val.natAbs:Int) = -b.val:=by omega
     rw[e5] at B2;have:(a.val.natAbs:Int) = -a.val:=by omega
     rw[this,Int.neg_mul] at B2;rw[show ((q+1:Nat):Int)=(q:Int)+1 from by omega,Int.mul_add];omega
    ·simp only[hn,h',decide_true,decide_false,show(true==false)=false from rfl,Bool.not_false,cond_true];have:(b.val.natAbs:Int)=b.val:=by omega
     rw[this] at B2;have:(a.val.natAbs:Int) = -a.val:=by omega
     rw[this] at B2;rw[show ((q+1:Nat):Int)=(q:Int)+1 from by omega,Int.mul_neg,Int.mul_add];omega
   rw[e.1,e.2];exact pS.e1 a b _ _ _ _ _ _ _ _ _ _ _ h2 Hn h1 hd h3 (acf hn) (by have:=(dm (n:=r)).1;omega) hp hl h3 h4 hw GD
 ·have hw:=whole (!(decide (a.val<0)==decide (b.val<0))) (words q) (by omega);have GD:=whole false (words r) (by omega);rw[aO] at hw GD;have e:a.val/b.val=(bif !(decide (a.val<0)==decide (b.val<0)) then -(q:Int) else (q:Int))∧a.val%b.val=(r:Int):=by
   refine uniq _ _ ?_ (by omega) (by omega);have B2:(a.val.natAbs:Int)=(b.val.natAbs:Int)*q+r:=by rw[←Ib];simp
   by_cases h':b.val<0
   ·simp only[hn,h',decide_true,decide_false,show(false==true)=false from rfl,Bool.not_false,cond_true];have e5:(b.val.natAbs:Int) = -b.val:=by omega
    rw[e5] at B2;have:(a.val.natAbs:Int)=a.val:=by omega
    rw[this,Int.neg_mul] at B2;rw[Int.mul_neg];omega
   ·simp only[hn,h',decide_false,beq_self_eq_true,Bool.not_true,cond_false];have:(b.val.natAbs:Int)=b.val:=by omega
    rw[this] at B2;have:(a.val.natAbs:Int)=a.val:=by omega
    rw[this] at B2;omega
  rw[e.1,e.2];exact pS.e3 a b _ _ _ _ _ _ _ _ _ h2 Hn h1 hd h3 (aci hn) h3 h4 hw GD
theorem Gcd(a b:aR)(ha:Fit a.db)(hb:Fit b.db):Cp 62 [a.pv,b.pv] (Sym.whole (Nat.gcd a.val.natAbs b.val.natAbs)).pv:=by
 have h1:=db a ha;have h2:=db b hb;have la:(words a.val.natAbs).length≤a.db.length:=bI a;have lb:(words b.val.natAbs).length≤b.db.length:=bI b;have loop:∀(k x y:Nat),y≤k→(words x).length≤1099511627776→(words y).length≤1099511627776→kX.ay (words x) (words y) (Sym.whole (Nat.gcd x y)).pv:=by
  intro k
  induction k with
  |zero =>
   intro x y hy hx _;have:y=0:=by omega
   subst this;have hw:=whole false (words x) (by omega);rw[aO] at hw;rw[ady];exact kX.dp _ _ _ (by rw[fw];simp) hw
  |succ k ih =>
   intro x y hy hx YR;by_cases h0:y=0
   ·subst h0;have hw:=whole false (words x) (by omega);rw[aO] at hw;rw[ady];exact kX.dp _ _ _ (by rw[fw];simp) hw
   ·have YS:(words y).length≠0:=by rw[Ne,dm];exact h0
    have hd:=Lj (words x) (words y) (iX _) (iX _) (by intro e;rw[e] at YS;simp at YS) (by omega) (by omega);rw[aO,aO] at hd;have hm:=adB x (show 0<y by omega);refine kX.eu _ _ _ _ (by omega) hd ?_;rw[adn,Nat.gcd_rec,adn];exact ih y (x%y) (by omega) YR (abZ (dg (aeT hm)) YR)
 exact kX.e0 a b _ _ h1 h2 (loop _ _ _ (abW _) (by omega) (by omega))
end eJ
end Go.Proofs.YtneklnlpgfeplaaGreat.Sym
