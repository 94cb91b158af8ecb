/- The statement SturmAdds is proved, its tables tied: counts of neighbouring intervals add up, over the bound all roots are counted; no condition. -/
import Derived.Test.YtjadajceekjeoaaGreatDoorYObs
import Derived.Test.YtjadajceekjeoaaGreatDoorM0
import Derived.Test.YtjadajceekjeoaaGreatDoorM2
import Derived.Shelf.Strconv.Itoa3
import Derived.Shelf.Strings.OnBuilder
import Derived.Test.YtjadajceekjeoaaGreatDoorM1
import Derived.Test.YtjadajceekjeoaaGreatDoorRows
import Derived.Test.YtjadajceekjeoaaGreatDoorCards
import Derived.Test.YtjadajceekjeoaaGreatDoorTie
import Derived.Deep.DeepHandedRow
import Derived.SevenTiedAt
import Derived.LaidLaws
import Derived.JoinedCond
namespace Go.Proofs.YtjadajceekjeoaaGreatDoor.Sym
open Go Go.RowKit
set_option linter.unusedVariables false
theorem Callable.mk' {P : Program} {f : FuncId} {fn : Func} (h : P.funcs[f]? = some fn) (hb : (fn.body.isSome && !(fn.name == "runtime.NumGoroutine")) = true) : Callable P f := by
  rw [Bool.and_eq_true, Bool.not_eq_true'] at hb
  exact ⟨fn, h, hb.1, hb.2⟩
theorem Contract.ofCalls{P:Program}{f:FuncId}{args:List PV}{r:PV}(hc:Callable P f)
  (h:∀(I:Nat→Prop) (w:World) (vs:Array Value),(∀b,I b→b<w.heap.size)→args.length=vs.size →
   (∀(j:Nat) p v,args[j]? = some p→vs[j]? = some v→Rd I w p v) →
   Calls P f vs w (fun e w'=>∃v,e = .returned v∧Rd (fun b=>I b∨fresh w w' b) w' r v∧Below w.heap.size w w')):Contract P f args r:=by
 refine⟨hc,fun I w β vs hI _ hl hr=>(h I w vs hI (by simpa using hl) (fun j p v hp hv=>hr j (.pv p) v (by rw[List.getElem?_map,hp];rfl) hv)).mono ?_⟩
 rintro e w' ⟨v,he,hv,hb⟩
 refine⟨v,β,he,fun _ _ _=>rfl,Keeps.of_below ⟨hb,fun s=>by unfold Str at s;exact s.elim⟩,⟨(fun r sc h=>by cases h),(fun r r' b h=>by unfold dom at h;cases h)⟩,?_,(fun x b h=>by unfold dom at h;cases h)⟩
 exact Rd.mono hv (fun b hb=>hb.imp id (fun hf=>⟨Or.inl hf,(fun x hx=>by unfold dom at hx;cases hx)⟩)) (fun _ _ _=>rfl)
theorem rdv_int{I:Nat→Prop}{w:World}{k:IntKind}{n:Int}{v:Value}(h:Rd I w (.int k n) v):v = .int k n:=by cases h;rfl
theorem rdv_str{I:Nat→Prop}{w:World}{s:ByteArray}{v:Value}(h:Rd I w (.str s) v):v = .string s:=by cases h;rfl
def dig(n:Nat):ByteArray:=⟨(Lib.decDigits n).toArray⟩
theorem Itoa_small(n:Nat)(h:n<100):Contract prg 166 [vI (n:Int)] (.str (dig n)):=by
 refine Contract.ofCalls (Callable.mk' Tryz.func166 (by kernel_rfl)) (fun I w vs hI hl hr => ?_)
 obtain⟨v,rfl⟩:∃v,vs = #[v]:=by
  match vs,hl with
  |⟨[v]⟩,_=>exact⟨v,rfl⟩
 have hv:=rdv_int (hr 0 _ v rfl rfl)
 subst hv
 refine Calls.mono (Any.strconv_Itoa_small Lay.lays171 n h w) ?_
 rintro e w' ⟨he,rfl⟩
 exact⟨_,he,.str _,Below.refl _ _⟩
def joinB(l:List ByteArray)(sep:ByteArray):ByteArray:=⟨(Lib.join (l.map (·.data.toList)) sep.data.toList).toArray⟩
theorem Join(l:List ByteArray)(sep:ByteArray)(hn:l.length≤140737488355328)(hlen:(Lib.join (l.map (·.data.toList)) sep.data.toList).length≤140737488355328) :
  Contract prg 168 [lpv strCell l,.str sep] (.str (joinB l sep)):=by
 refine Contract.ofCalls (Callable.mk' Tryz.func168 (by kernel_rfl)) (fun I w vs hI hl hr => ?_)
 obtain⟨v,u,rfl⟩:∃v u,vs = #[v,u]:=by
  match vs,hl with
  |⟨[v,u]⟩,_=>exact⟨v,u,rfl⟩
 have hu:=rdv_str (hr 1 _ u rfl rfl)
 subst hu
 have hv:Rd I w (.list (l.map strCell)) v:=hr 0 _ v rfl rfl
 cases l with
 |nil =>
  have:∃a c,v = .slice a 0 c:=by
   generalize hx:(PV.list (([]:List ByteArray).map strCell))=x at hv
   cases hv with
   |nil a c=>exact⟨a,c,rfl⟩
   |list xs b o c s f hc hb hs ho h =>
    injection hx with hx
    subst hx
    exact⟨_,c,rfl⟩
   |_=>cases hx
  obtain⟨a,c,rfl⟩:=this
  refine Calls.mono (Any.strings_Join_none Lay.lays156 Lay.extra a c sep w) ?_
  rintro e w' ⟨he,rfl⟩
  exact⟨_,he,.str _,Below.refl _ _⟩
 |cons x0 r =>
  have:∃b o c,v = .slice (some ⟨b,o,none⟩) (x0::r).length c∧(x0::r).length≤c∧I b∧∀(j:Nat) x,(x0::r)[j]? = some x→w.cell? ⟨b,o+j,none⟩=some (.string x):=by
   generalize hx:(PV.list ((x0::r).map strCell))=x at hv
   cases hv with
   |list xs b o c s f hc hb hs ho h =>
    injection hx with hx
    subst hx
    have hs1:s=1:=by
     have:=hs 0 _ rfl
     simpa[strCell] using this.symm
    subst hs1
    refine⟨b,o,c,by rw[List.length_map],by simpa using hc,hb,fun j x hj => ?_⟩
    have hrow:((x0::r).map strCell)[j]? = some (strCell x):=by rw[List.getElem?_map,hj];rfl
    have h1:=(ho j 0 _ (.str x) hrow rfl).2
    have h2:=rdv_str (h j 0 _ (.str x) hrow rfl)
    rw[h2] at h1
    simpa using h1
   |_=>cases hx
  obtain⟨b,o,c,rfl,hc,hb,hcell⟩:=this
  refine Calls.mono (Any.strings_Join Lay.lays156 Lay.extra b o c (x0::r) sep w hcell (hI b hb) hn hc hlen) ?_
  rintro e w' ⟨he,hw⟩
  exact⟨_,he,.str _,hw⟩
end Go.Proofs.YtjadajceekjeoaaGreatDoor.Sym
namespace Go.Proofs.YtjadajceekjeoaaGreatDoor.Sym
open Go Path CInt
set_option linter.unusedVariables false
def numT(n:Int):ByteArray:=if n<0 then ByteArray.mk #[45]++dig n.natAbs else dig n.natAbs
def ratT(q:Rat):ByteArray:=if (q.den:Int)=1 then numT q.num else numT q.num++ByteArray.mk #[47]++numT (q.den:Int)
theorem dig_small{n:Nat}(h:n<10):dig n=ByteArray.mk #[UInt8.ofNat (48+n)]:=by
 unfold dig
 rw[Lib.decDigits,dif_pos h]
theorem dig_size{n:Nat}(h:n<1000000000):(dig n).size≤10:=by
 have key:∀(k n:Nat),n<10^(k+1)→(Lib.decDigits n).length≤k+1:=by
  intro k
  induction k with
  |zero =>
   intro n h
   rw[Lib.decDigits,dif_pos (by omega)]
   exact Nat.le_refl _
  |succ k ih =>
   intro n h
   by_cases h9:n<10
   ·rw[Lib.decDigits,dif_pos h9];simp
   ·rw[Lib.decDigits,dif_neg h9,List.length_append,List.length_singleton]
    have:=ih (n/10) (by rw[Nat.pow_succ] at h;omega)
    omega
 have:=key 8 n (by omega)
 show(Lib.decDigits n).toArray.size≤10
 rw[List.size_toArray]
 omega
theorem join_one(x sep:ByteArray):joinB [x] sep=x:=by
 unfold joinB
 rw[List.map_cons,List.map_nil,Lib.join_one]
theorem numT_size{n:Int}(h:n.natAbs<1000000000):(numT n).size≤11:=by
 have:=dig_size h
 unfold numT
 split
 ·rw[ByteArray.size_append]
  have e:(ByteArray.mk #[45]).size=1:=rfl
  omega
 ·omega
namespace CTx
theorem iText(n:Int)(h:n.natAbs<1000000000)(hI:n≠0→Contract prg 166 [vI (n.natAbs:Int)] (.str (dig n.natAbs))):Contract prg 146 [(whole n).pv] (.str (numT n)):=by
 have hl:(words n.natAbs).length≤1:=len_of_lt (by omega)
 have hfit:Fit (whole n).mag:=by
  show Fit (words n.natAbs)
  unfold Fit
  omega
 have hm:=CInt.mag (whole n) hfit
 have hn:=CInt.neg (whole n) hfit
 rw[whole_val] at hm hn
 by_cases h0:n=0
 ·subst h0
  have e:numT 0=ByteArray.mk #[48]:=by
   unfold numT
   rw[if_neg (by omega),show Int.natAbs 0=0 from rfl,dig_small (by omega)];rfl
  rw[e]
  exact integer_Text.e0 _ _ hm rfl
 ·have hw:(words n.natAbs).length≠0:=fun e=>h0 (by have:=words_len0.1 e;omega)
  have hs:=CInt.short (words n.natAbs) (1000000000:UInt32) (by omega) (by decide)
  rw[nat_words,show(1000000000:UInt32).toNat=1000000000 from rfl,Nat.div_eq_of_lt h,Nat.mod_eq_of_lt h,words_zero] at hs
  have hv:(UInt32.ofNat n.natAbs).toNat=n.natAbs:=by
   rw[w_ofNat]
   exact Nat.mod_eq_of_lt (by omega)
  have hi:Contract prg 166 [vI ((UInt32.ofNat n.natAbs).toNat:Int)] (.str (dig n.natAbs)):=by
   rw[hv];exact hI h0
  have hd:=dig_size h
  have hj:=Join [dig n.natAbs] (ByteArray.mk #[]) (by simp) (by
   rw[List.map_cons,List.map_nil,Lib.join_one,Array.length_toList]
   have:(dig n.natAbs).data.size=(dig n.natAbs).size:=rfl
   omega)
  rw[join_one] at hj
  have hN:integer_Text.Loop1 [] [dig n.natAbs] (whole n) (.str (numT n)):=by
   by_cases hneg:n<0
   ·have:=integer_Text.l12 [] _ _ _ _ (by simp) hj hn (decide_eq_true hneg) (by
     have e:(ByteArray.mk #[45]).size=1:=rfl
     omega)
    unfold numT
    rw[if_pos hneg]
    exact this
   ·have:=integer_Text.l13 [] _ _ _ _ (by simp) hj hn (decide_eq_false hneg)
    unfold numT
    rw[if_neg hneg]
    exact this
  exact integer_Text.e1 _ _ hm hw (integer_Text.l11 _ [] _ _ _ _ (by omega) hs hi (by simp) (by simp) hN)
theorem iText_small(n:Int)(h:n.natAbs<100):Contract prg 146 [(whole n).pv] (.str (numT n)):=iText n (by omega) (fun _=>Itoa_small _ h)
theorem fText(q:Rat)(h1:q.num.natAbs<1000000000)(h2:q.den<1000000000)(hN:Contract prg 146 [(whole q.num).pv] (.str (numT q.num)))(hD:Contract prg 146 [(whole (q.den:Int)).pv] (.str (numT (q.den:Int)))):Contract prg 99 [(mkR q).pv] (.str (ratT q)):=by
 have l1:wl q.num≤1:=len_of_lt (by omega)
 have l2:wl (q.den:Int)≤1:=len_of_lt (by rw[Int.natAbs_natCast];omega)
 have hh:ht q≤1:=Nat.max_le.2 ⟨l1,l2⟩
 have hp:=CFr.Parts (mkR q) (fit_mkR (by omega))
 rw[mkR_val] at hp
 have hc:=CInt.Cmp (whole (q.den:Int)) (whole 1) (show Fit (whole (q.den:Int)).mag from Nat.le_trans l2 (by omega)) (by decide)
 rw[whole_val,whole_val] at hc
 have s1:=numT_size h1
 have s2:=numT_size (n:=(q.den:Int)) (by rw[Int.natAbs_natCast];exact h2)
 by_cases hd:(q.den:Int)=1
 ·have:=fraction_Text.e0 _ _ _ _ _ _ hp CFr.one hc (by rw[hd];rfl) hN
  unfold ratT
  rw[if_pos hd]
  exact this
 ·have e:(ByteArray.mk #[47]).size=1:=rfl
  have hc0:cmpI (q.den:Int) 1≠0:=by
   unfold cmpI
   intro hx
   split at hx
   ·cases hx
   ·omega
  have:=fraction_Text.e1 _ _ _ _ _ _ _ hp CFr.one hc hc0 hN (by omega) hD (by rw[ByteArray.size_append];omega)
  unfold ratT
  rw[if_neg hd]
  exact this
theorem fText_small(q:Rat)(h1:q.num.natAbs<100)(h2:q.den<100):Contract prg 99 [(mkR q).pv] (.str (ratT q)) :=
 fText q (by omega) (by omega) (iText_small _ h1) (iText_small _ (by rw[Int.natAbs_natCast];exact h2))
end CTx
end Go.Proofs.YtjadajceekjeoaaGreatDoor.Sym
namespace Go.Proofs.YtjadajceekjeoaaGreatDoor.Sym.Path
open Go
set_option maxRecDepth 20000
set_option linter.unusedVariables false
namespace linkworklaw06_short
@[reducible] noncomputable def fn:Func:=Tryz.f10
noncomputable def atK1:List Itm:=focus [0,2,0,0,2,1,2,0,0,2,0,0] [.code (bodyOf fn)]
def inv1(p:List ARat)(t_20:Nat):St:=⟨[(18,(.pv (polyPV p))),(19,(eI (p.length:Int))),(20,(eI (t_20:Int)))],[]⟩
@[reducible] noncomputable def Loop1(p:List ARat)(t_20:Nat)(r:PV):Prop:=L prg fn atK1 (inv1 p t_20) r
theorem e0(p:List ARat)(h1:7<p.length)(h2:p.length≤65):Contract prg 10 [(polyPV p)] (vB false) :=
 Contract.ofL Tryz.func10 (by kernel_rfl) (L.done mixed tabOk (n:=84) (ns:=[1,1,1,1,1,1,1,1,1,1]) (tr:=[.reg [],.reg [.none,(iI (p.length:Int)),.none,.none,.none,(iI (p.length:Int)),.none,(.dec true),.none,.skip,.skip,.skip,(.dec true)],.auto,.reg []]) (cj (o_len ARat.cells p) (cj (dltN_t h1) (cj (dltN_t h1) (cj (o_len ARat.cells p) (cj (dltN_t h1) (cj (dltN_t h1) (cj (dleN_t h2) (cj (dleN_t h2) (cj (dleN_t h2) (cj (dleN_t h2) True.intro)))))))))) (by kernel_rfl))
theorem e1(p:List ARat)(h1:7<p.length)(h2:65<p.length)(h3:100<p.length):Contract prg 10 [(polyPV p)] (vB false) :=
 Contract.ofL Tryz.func10 (by kernel_rfl) (L.done mixed tabOk (n:=84) (ns:=[1,1,1,1,1,1,1,1,1,1,1,1]) (tr:=[.reg [],.reg [.none,(iI (p.length:Int)),.none,.none,.none,(iI (p.length:Int)),.none,(.dec true),.none,.none,(iI (p.length:Int)),.none,(.dec false)],.dec true,.reg []]) (cj (o_len ARat.cells p) (cj (dltN_t h1) (cj (dltN_t h1) (cj (o_len ARat.cells p) (cj (dltN_t h1) (cj (dltN_t h1) (cj (dleN_f h2) (cj (dleN_f h2) (cj (o_len ARat.cells p) (cj (dleN_f h2) (cj (dleN_f h2) (cj (dltN_t h3) True.intro)))))))))))) (by kernel_rfl))
theorem e2(p:List ARat){r:PV}(h1:7<p.length)(h2:65<p.length)(h3:p.length≤100)(hL:Loop1 p 0 r):Contract prg 10 [(polyPV p)] r :=
 Contract.ofL Tryz.func10 (by kernel_rfl) (L.go mixed tabOk (n:=96) (ns:=[1,1,1,1,1,1,1,1,1,1,1,1,1]) (tr:=[.reg [],.reg [.none,(iI (p.length:Int)),.none,.none,.none,(iI (p.length:Int)),.none,(.dec true),.none,.none,(iI (p.length:Int)),.none,(.dec false)],.dec false,.reg [.none,(iI (p.length:Int))],.keep [18,19,20]]) (cj (o_len ARat.cells p) (cj (dltN_t h1) (cj (dltN_t h1) (cj (o_len ARat.cells p) (cj (dltN_t h1) (cj (dltN_t h1) (cj (dleN_f h2) (cj (dleN_f h2) (cj (o_len ARat.cells p) (cj (dleN_f h2) (cj (dleN_f h2) (cj (dltN_f h3) (cj (o_len ARat.cells p) True.intro))))))))))))) (by kernel_rfl) hL)
theorem e4(p:List ARat){r:PV}(h1:p.length≤7)(h2:p.length≤100)(hL:Loop1 p 0 r):Contract prg 10 [(polyPV p)] r :=
 Contract.ofL Tryz.func10 (by kernel_rfl) (L.go mixed tabOk (n:=96) (ns:=[1,1,1,1,1,1,1,1,1,1,1]) (tr:=[.reg [],.reg [.none,(iI (p.length:Int)),.none,.none,.skip,.skip,.skip,(.dec false),.none,.none,(iI (p.length:Int))],.dec false,.reg [.none,(iI (p.length:Int))],.keep [18,19,20]]) (cj (o_len ARat.cells p) (cj (dltN_f h1) (cj (dltN_f h1) (cj (dltN_f h1) (cj (dltN_f h1) (cj (Eq.refl false) (cj (Eq.refl false) (cj (o_len ARat.cells p) (cj (Eq.refl false) (cj (dltN_f h2) (cj (o_len ARat.cells p) True.intro))))))))))) (by kernel_rfl) hL)
theorem l10(p:List ARat)(t_20:Nat)(v:ARat)(low:Bool)(h1:t_20<p.length)(h2:p[t_20]? = some v)(h3:Contract prg 44 [v.pv,(vW (1000:UInt32)),(vW (1000:UInt32))] (vB low))(h4:low=false):Loop1 p t_20 (vB false) :=
 L.done mixed tabOk (n:=141) (ns:=[1,3,1,1]) (tr:=[.auto,.reg [],.dec true,.reg [(.row t_20 (ARat.cells v))],.reg [.none,(.pv (vB low))],.dec true,.reg []]) (cj (dltN_t h1) (cj (o_at ARat.cells (Eq.refl (((t_20:Nat):Int):Int)) h2) (cj h3 (cj (bnot_t h4) True.intro)))) (by kernel_rfl)
theorem l11(p:List ARat)(t_20:Nat)(v:ARat)(low:Bool){r:PV}(h1:t_20<p.length)(h2:p[t_20]? = some v)(h3:Contract prg 44 [v.pv,(vW (1000:UInt32)),(vW (1000:UInt32))] (vB low))(h4:low=true)(h5:(t_20+1)<9223372036854775808)(hL:Loop1 p (t_20+1) r):Loop1 p t_20 r :=
 L.go mixed tabOk (n:=144) (ns:=[1,3,1,1,1]) (tr:=[.auto,.reg [],.dec true,.reg [(.row t_20 (ARat.cells v))],.reg [.none,(.pv (vB low))],.dec false,.reg [(iI (((t_20+1):Nat):Int))],.keep [18,19,20],.drop [4]]) (cj (dltN_t h1) (cj (o_at ARat.cells (Eq.refl (((t_20:Nat):Int):Int)) h2) (cj h3 (cj (bnot_f h4) (cj (bs_addN h5) True.intro))))) (by kernel_rfl) hL
theorem l12(p:List ARat)(t_20:Nat)(h1:p.length≤t_20):Loop1 p t_20 (vB true) :=
 L.done mixed tabOk (n:=129) (ns:=[1]) (tr:=[.auto,.reg [],.dec false,.reg []]) (cj (dltN_f h1) True.intro) (by kernel_rfl)
end linkworklaw06_short
namespace linkworklaw06_brief
theorem e0(l:List ARat)(sho:Bool)(h1:Contract prg 10 [(polyPV l)] (vB sho)):Contract prg 11 [(polyPV l)] (vB sho) :=
 Contract.ofL Tryz.func11 (by kernel_rfl) (L.done mixed tabOk (n:=72) (ns:=[1]) (tr:=[.reg [],.reg [.none,(.pv (vB sho))]]) (cj h1 True.intro) (by kernel_rfl))
end linkworklaw06_brief
namespace linkworklaw06_awake
theorem e3(of:List ARat)(all:Int)(of1:List ARat)(iso:List ARange)(of2:List ARat)(all2:Int)(of3:List ARat)(v ref:ARange)(of4:List ARat)(iso2:List ARange)(v1:ARange)(tex tex1:ByteArray)(v2:ARange)(tex2:ByteArray)(h1:Contract prg 40 [(lpv intCell [(-2),0,1])] (polyPV of))(h2:Contract prg 14 [(polyPV of)] (.tup [(vI all),.nilI]))(h3:Contract prg 40 [(lpv intCell [(-2),0,1])] (polyPV of1))(h4:Contract prg 32 [(polyPV of1)] (.tup [(lpv ARange.cells iso),.nilI]))(h5:Contract prg 40 [(lpv intCell [1,0,1])] (polyPV of2))(h6:Contract prg 14 [(polyPV of2)] (.tup [(vI all2),.nilI]))(h7:all=2)(h8:all2=0)(h9:iso.length=2)(h10:Contract prg 40 [(lpv intCell [(-2),0,1])] (polyPV of3))(h11:iso[1]? = some v)(h12:Contract prg 21 [(polyPV of3),v.pv,(vI 1)] (.tup [ref.pv,.nilI]))(h13:Contract prg 40 [(lpv intCell [0,(-1),0,1])] (polyPV of4))(h14:Contract prg 32 [(polyPV of4)] (.tup [(lpv ARange.cells iso2),.nilI]))(h15:iso[0]? = some v1)(h16:Contract prg 45 [v1.pv] (.str tex))(h17:tex=(ByteArray.mk #[45,52,46,46,48]))(h18:Contract prg 45 [ref.pv] (.str tex1))(h19:tex1=(ByteArray.mk #[49,46,46,51,47,50]))(h20:iso2.length=3)(h21:iso2[0]? = some v2)(h22:Contract prg 45 [v2.pv] (.str tex2)):Contract prg 12 [] (vB (decide (tex2=(ByteArray.mk #[45,49,46,46,45,49])))) :=
 Contract.ofL Tryz.func12 (by kernel_rfl) (L.done mixed tabOk (n:=117) (ns:=[3,1,1,3,1,1,3,1,1,1,1,1,1,1,1,1,1,1,1,1,1,1,1,1,3,1,3,1,3,1,1,1,1,1,1,3,1,1,1,1,1,1,1,1,1,1,1,1,1,1,1,1,3,1,1,1,1,1]) (tr:=[.reg [],.reg [(.slc 0 0 (([(-2),0,1]:List Int).map intCell)),(.pv (polyPV of)),(.pv (.tup [(vI all),.nilI]))],.reg [(.slc 0 0 (([(-2),0,1]:List Int).map intCell)),(.pv (polyPV of1)),(.pv (.tup [(lpv ARange.cells iso),.nilI]))],.reg [(.slc 0 0 (([1,0,1]:List Int).map intCell)),(.pv (polyPV of2)),(.pv (.tup [(vI all2),.nilI]))],.reg [.none,.none,.none,.none,.none,.none,.none,.none,.none,.none,.none,.none,.none,.none,.none,.none,.none,(.dec false),.none,.none,(iI (iso.length:Int)),.none,(.dec false)],.dec false,dr 11 1 [(.slc 0 0 (([(-2),0,1]:List Int).map intCell)),(.pv (polyPV of3)),.none,(.row 1 (ARange.cells v)),.none,(.pv (.tup [ref.pv,.nilI]))],.reg [(.slc 0 0 (([0,(-1),0,1]:List Int).map intCell)),(.pv (polyPV of4)),(.pv (.tup [(lpv ARange.cells iso2),.nilI]))],.reg [.none,.none,.none,.none,.none,.none,.none,.none,(.row 0 (ARange.cells v1)),.none,(.pv (.str tex)),.none,.none,.none,.none,(.pv (.str tex1)),.none,(.dec true),.none,.none,(iI (iso2.length:Int)),.none,(.dec true),.none,.none,(.row 0 (ARange.cells v2)),.none,(.pv (.str tex2)),.none,(.dec true)]]) (cj (o_bs sz_int ([(-2),0,1]:List Int)) (cj h1 (cj h2 (cj (o_bs sz_int ([(-2),0,1]:List Int)) (cj h3 (cj h4 (cj (o_bs sz_int ([1,0,1]:List Int)) (cj h5 (cj h6 (cj (Eq.refl false) (cj (Eq.refl false) (cj (Eq.refl false) (cj (Eq.refl false) (cj (Eq.refl false) (cj (Eq.refl false) (cj (dne_f h7) (cj (dne_f h7) (cj (dne_f h7) (cj (dne_f h8) (cj (dne_f h8) (cj (o_len ARange.cells iso) (cj (dne_f h8) (cj (dne_f h8) (cj (dneN_f h9) (cj (o_bs sz_int ([(-2),0,1]:List Int)) (cj h10 (cj (o_at ARange.cells (Eq.refl (1:Int)) h11) (cj h12 (cj (o_bs sz_int ([0,(-1),0,1]:List Int)) (cj h13 (cj h14 (cj (Eq.refl true) (cj (Eq.refl true) (cj (Eq.refl true) (cj (Eq.refl true) (cj (o_at ARange.cells (Eq.refl (0:Int)) h15) (cj (Eq.refl true) (cj (Eq.refl true) (cj h16 (cj (Eq.refl true) (cj (dseq_t h17) (cj (dseq_t h17) (cj h18 (cj (dseq_t h17) (cj (dseq_t h17) (cj (dseq_t h19) (cj (dseq_t h19) (cj (o_len ARange.cells iso2) (cj (dseq_t h19) (cj (dseq_t h19) (cj (deqN_t h20) (cj (deqN_t h20) (cj (o_at ARange.cells (Eq.refl (0:Int)) h21) (cj (deqN_t h20) (cj (deqN_t h20) (cj h22 (cj (deqN_t h20) (cj (deqN_t h20) True.intro)))))))))))))))))))))))))))))))))))))))))))))))))))))))))) (by kernel_rfl))
end linkworklaw06_awake
namespace linkworklaw06_valid
theorem e0(p:List ARat)(sho:Bool)(err:Int)(h1:Contract prg 10 [(polyPV p)] (vB sho))(h2:sho=true)(h3:Contract prg 52 [(polyPV p)] (vI err)):Contract prg 24 [(polyPV p)] (vB (err==0)) :=
 Contract.ofL Tryz.func24 (by kernel_rfl) (L.done mixed tabOk (n:=72) (ns:=[1,1,1,1,1,1]) (tr:=[.reg [],.reg [.none,(.pv (vB sho)),.none,.none,(.pv (vI err)),.none,(.dec true)]]) (cj h1 (cj h2 (cj h2 (cj h3 (cj h2 (cj h2 True.intro)))))) (by kernel_rfl))
theorem e1(p:List ARat)(sho:Bool)(h1:Contract prg 10 [(polyPV p)] (vB sho))(h2:sho=false):Contract prg 24 [(polyPV p)] (vB false) :=
 Contract.ofL Tryz.func24 (by kernel_rfl) (L.done mixed tabOk (n:=72) (ns:=[1,1,1,1,1]) (tr:=[.reg [],.reg [.none,(.pv (vB sho)),.none,.skip,.skip,.skip,(.dec false)]]) (cj h1 (cj h2 (cj h2 (cj h2 (cj h2 True.intro))))) (by kernel_rfl))
end linkworklaw06_valid
namespace linkworklaw06_of
@[reducible] noncomputable def fn:Func:=Tryz.f40
noncomputable def atK1:List Itm:=focus [0,2,0,2,0,0,2,0,0] [.code (bodyOf fn)]
def inv1(site_16:List ARat)(l:List Int)(t_8:Nat):St:=⟨[(3,(.row 16 0 site_16.length 3)),(6,(.pv (lpv intCell l))),(7,(eI (l.length:Int))),(8,(eI (t_8:Int)))],[(16,(.pure ((site_16:List ARat).map ARat.cells).flatten))]⟩
@[reducible] noncomputable def Loop1(site_16:List ARat)(l:List Int)(t_8:Nat)(r:PV):Prop:=L prg fn atK1 (inv1 site_16 l t_8) r
theorem e0 (l : List Int) {r : PV}  (hL : Loop1 [] l 0 r) : Contract prg 40 [(lpv intCell l)] r :=
 Contract.ofL Tryz.func40 (by kernel_rfl) (L.go mixed tabOk (n:=87) (ns:=[1]) (tr:=[.reg [],.reg [.nil],.adopt 3 16 3,.reg [.none,(iI (l.length:Int))],.keep [3,6,7,8]]) (cj (o_len intCell l) True.intro) (by kernel_rfl) hL)
theorem l10(site_16:List ARat)(l:List Int)(t_8:Nat)(v:Int)(of:ARat){r:PV}(h1:t_8<l.length)(h2:l[t_8]? = some v)(h3:Contract prg 56 [(vI v)] of.pv)(h4:((site_16++[of]):List ARat).length*56≤140737488355328)(h5:(t_8+1)<9223372036854775808)(hL:Loop1 (site_16++[of]) l (t_8+1) r):Loop1 site_16 l t_8 r :=
 L.go mixed tabOk (n:=126) (ns:=[1,3,1,6,1]) (tr:=[.auto,.reg [],.dec true,.reg [(.row t_8 (intCell v))],.reg [.none,.none,(.pv of.pv),.none,(.app ((site_16++[of]):List ARat).length (((site_16++[of]):List ARat).map ARat.cells).flatten)],.reg [(iI (((t_8+1):Nat):Int))],.keep [3,6,7,8],.drop [15]]) (cj (dltN_t h1) (cj (o_at intCell (Eq.refl (((t_8:Nat):Int):Int)) h2) (cj h3 (cj (o_appR sz_ARat (site_16:List ARat) ([of]:List ARat) 56 (Eq.refl (site_16:List ARat).length) (Eq.refl ([of]:List ARat).length) h4 rfl) (cj (bs_addN h5) True.intro))))) (by kernel_rfl) hL
theorem l11(site_16:List ARat)(l:List Int)(t_8:Nat)(h1:l.length≤t_8):Loop1 site_16 l t_8 (polyPV site_16) :=
 L.done mixed tabOk (n:=120) (ns:=[1,3]) (tr:=[.auto,.reg [],.dec false,.reg [],.frzT 2 ((site_16:List ARat).map ARat.cells)]) (cj (dltN_f h1) (cj (o_frz sz_ARat (site_16:List ARat) (Eq.refl (site_16:List ARat).length)) True.intro)) (by kernel_rfl)
end linkworklaw06_of
namespace linkworklaw06_low
theorem e0(x:ARat)(num den:UInt32)(h1:x.num.length<2)(h2:x.den.length<2)(h3:x.num.length=0)(h4:x.den.length=0):Contract prg 44 [x.pv,(vW num),(vW den)] (vB true) :=
 Contract.ofL Tryz.func44 (by kernel_rfl) (L.done mixed tabOk (n:=72) (ns:=[1,1,1,1,1,1,1,1,1,1,1,1,1,1,1,1,1,1,1,1,1,1,1,1,1,1,1,1,1,1,1,1,1,1,1,1]) (tr:=[.reg [],.reg [.none,.none,(iI (x.num.length:Int)),.none,.none,.none,.none,(iI (x.den.length:Int)),.none,(.dec true),.none,.none,.none,(iI (x.num.length:Int)),.none,.none,.skip,.skip,.skip,.skip,.skip,.skip,(.dec true),(.dec true),.none,.none,.none,(iI (x.den.length:Int)),.none,.none,.skip,.skip,.skip,.skip,.skip,.skip,(.dec true)]]) (cj (o_len wordPV x.num) (cj (dltN_t h1) (cj (dltN_t h1) (cj (dltN_t h1) (cj (o_len wordPV x.den) (cj (dltN_t h1) (cj (dltN_t h1) (cj (dltN_t h2) (cj (dltN_t h2) (cj (dltN_t h2) (cj (o_len wordPV x.num) (cj (dltN_t h2) (cj (dltN_t h2) (cj (deqN_t h3) (cj (deqN_t h3) (cj (deqN_t h3) (cj (deqN_t h3) (cj (deqN_t h3) (cj (deqN_t h3) (cj (dltN_t h2) (cj (deqN_t h3) (cj (dltN_t h2) (cj (Eq.refl true) (cj (Eq.refl true) (cj (Eq.refl true) (cj (o_len wordPV x.den) (cj (Eq.refl true) (cj (Eq.refl true) (cj (deqN_t h4) (cj (deqN_t h4) (cj (deqN_t h4) (cj (deqN_t h4) (cj (deqN_t h4) (cj (deqN_t h4) (cj (Eq.refl true) (cj (deqN_t h4) True.intro)))))))))))))))))))))))))))))))))))) (by kernel_rfl))
theorem e1(x:ARat)(num den v:UInt32)(h1:x.num.length<2)(h2:x.den.length<2)(h3:x.num.length=0)(h4:x.den.length≠0)(h5:x.den[0]? = some v):Contract prg 44 [x.pv,(vW num),(vW den)] (vB (decide ((v.toNat:Int)≤(den.toNat:Int)))) :=
 Contract.ofL Tryz.func44 (by kernel_rfl) (L.done mixed tabOk (n:=72) (ns:=[1,1,1,1,1,1,1,1,1,1,1,1,1,1,1,1,1,1,1,1,1,1,1,1,1,1,1,1,1,1,1,3,1,1,1,1,1]) (tr:=[.reg [],.reg [.none,.none,(iI (x.num.length:Int)),.none,.none,.none,.none,(iI (x.den.length:Int)),.none,(.dec true),.none,.none,.none,(iI (x.num.length:Int)),.none,.none,.skip,.skip,.skip,.skip,.skip,.skip,(.dec true),(.dec true),.none,.none,.none,(iI (x.den.length:Int)),.none,.none,.none,.none,(.row 0 (wordPV v)),.none,.none,.none,(.dec false)]]) (cj (o_len wordPV x.num) (cj (dltN_t h1) (cj (dltN_t h1) (cj (dltN_t h1) (cj (o_len wordPV x.den) (cj (dltN_t h1) (cj (dltN_t h1) (cj (dltN_t h2) (cj (dltN_t h2) (cj (dltN_t h2) (cj (o_len wordPV x.num) (cj (dltN_t h2) (cj (dltN_t h2) (cj (deqN_t h3) (cj (deqN_t h3) (cj (deqN_t h3) (cj (deqN_t h3) (cj (deqN_t h3) (cj (deqN_t h3) (cj (dltN_t h2) (cj (deqN_t h3) (cj (dltN_t h2) (cj (Eq.refl true) (cj (Eq.refl true) (cj (Eq.refl true) (cj (o_len wordPV x.den) (cj (Eq.refl true) (cj (Eq.refl true) (cj (deqN_f h4) (cj (deqN_f h4) (cj (deqN_f h4) (cj (o_at wordPV (Eq.refl (0:Int)) h5) (cj (deqN_f h4) (cj (deqN_f h4) (cj (deqN_f h4) (cj (Eq.refl true) (cj (deqN_f h4) True.intro))))))))))))))))))))))))))))))))))))) (by kernel_rfl))
theorem e2(x:ARat)(num den v:UInt32)(h1:x.num.length<2)(h2:x.den.length<2)(h3:x.num.length≠0)(h4:x.num[0]? = some v)(h5:v.toNat≤num.toNat)(h6:x.den.length=0):Contract prg 44 [x.pv,(vW num),(vW den)] (vB true) :=
 Contract.ofL Tryz.func44 (by kernel_rfl) (L.done mixed tabOk (n:=72) (ns:=[1,1,1,1,1,1,1,1,1,1,1,1,1,1,1,1,3,1,1,1,1,1,1,1,1,1,1,1,1,1,1,1,1,1,1,1,1,1]) (tr:=[.reg [],.reg [.none,.none,(iI (x.num.length:Int)),.none,.none,.none,.none,(iI (x.den.length:Int)),.none,(.dec true),.none,.none,.none,(iI (x.num.length:Int)),.none,.none,.none,.none,(.row 0 (wordPV v)),.none,.none,.none,(.dec false),(.dec true),.none,.none,.none,(iI (x.den.length:Int)),.none,.none,.skip,.skip,.skip,.skip,.skip,.skip,(.dec true),(.dec true)]]) (cj (o_len wordPV x.num) (cj (dltN_t h1) (cj (dltN_t h1) (cj (dltN_t h1) (cj (o_len wordPV x.den) (cj (dltN_t h1) (cj (dltN_t h1) (cj (dltN_t h2) (cj (dltN_t h2) (cj (dltN_t h2) (cj (o_len wordPV x.num) (cj (dltN_t h2) (cj (dltN_t h2) (cj (deqN_f h3) (cj (deqN_f h3) (cj (deqN_f h3) (cj (o_at wordPV (Eq.refl (0:Int)) h4) (cj (deqN_f h3) (cj (deqN_f h3) (cj (deqN_f h3) (cj (dltN_t h2) (cj (deqN_f h3) (cj (dltN_t h2) (cj (dleN_t h5) (cj (dleN_t h5) (cj (dleN_t h5) (cj (o_len wordPV x.den) (cj (dleN_t h5) (cj (dleN_t h5) (cj (deqN_t h6) (cj (deqN_t h6) (cj (deqN_t h6) (cj (deqN_t h6) (cj (deqN_t h6) (cj (deqN_t h6) (cj (dleN_t h5) (cj (deqN_t h6) (cj (dleN_t h5) True.intro)))))))))))))))))))))))))))))))))))))) (by kernel_rfl))
theorem e3(x:ARat)(num den v v1:UInt32)(h1:x.num.length<2)(h2:x.den.length<2)(h3:x.num.length≠0)(h4:x.num[0]? = some v)(h5:v.toNat≤num.toNat)(h6:x.den.length≠0)(h7:x.den[0]? = some v1):Contract prg 44 [x.pv,(vW num),(vW den)] (vB (decide ((v1.toNat:Int)≤(den.toNat:Int)))) :=
 Contract.ofL Tryz.func44 (by kernel_rfl) (L.done mixed tabOk (n:=72) (ns:=[1,1,1,1,1,1,1,1,1,1,1,1,1,1,1,1,3,1,1,1,1,1,1,1,1,1,1,1,1,1,1,1,3,1,1,1,1,1,1]) (tr:=[.reg [],.reg [.none,.none,(iI (x.num.length:Int)),.none,.none,.none,.none,(iI (x.den.length:Int)),.none,(.dec true),.none,.none,.none,(iI (x.num.length:Int)),.none,.none,.none,.none,(.row 0 (wordPV v)),.none,.none,.none,(.dec false),(.dec true),.none,.none,.none,(iI (x.den.length:Int)),.none,.none,.none,.none,(.row 0 (wordPV v1)),.none,.none,.none,(.dec false),(.dec true)]]) (cj (o_len wordPV x.num) (cj (dltN_t h1) (cj (dltN_t h1) (cj (dltN_t h1) (cj (o_len wordPV x.den) (cj (dltN_t h1) (cj (dltN_t h1) (cj (dltN_t h2) (cj (dltN_t h2) (cj (dltN_t h2) (cj (o_len wordPV x.num) (cj (dltN_t h2) (cj (dltN_t h2) (cj (deqN_f h3) (cj (deqN_f h3) (cj (deqN_f h3) (cj (o_at wordPV (Eq.refl (0:Int)) h4) (cj (deqN_f h3) (cj (deqN_f h3) (cj (deqN_f h3) (cj (dltN_t h2) (cj (deqN_f h3) (cj (dltN_t h2) (cj (dleN_t h5) (cj (dleN_t h5) (cj (dleN_t h5) (cj (o_len wordPV x.den) (cj (dleN_t h5) (cj (dleN_t h5) (cj (deqN_f h6) (cj (deqN_f h6) (cj (deqN_f h6) (cj (o_at wordPV (Eq.refl (0:Int)) h7) (cj (deqN_f h6) (cj (deqN_f h6) (cj (deqN_f h6) (cj (dleN_t h5) (cj (deqN_f h6) (cj (dleN_t h5) True.intro))))))))))))))))))))))))))))))))))))))) (by kernel_rfl))
theorem e4(x:ARat)(num den v:UInt32)(h1:x.num.length<2)(h2:x.den.length<2)(h3:x.num.length≠0)(h4:x.num[0]? = some v)(h5:num.toNat<v.toNat):Contract prg 44 [x.pv,(vW num),(vW den)] (vB false) :=
 Contract.ofL Tryz.func44 (by kernel_rfl) (L.done mixed tabOk (n:=72) (ns:=[1,1,1,1,1,1,1,1,1,1,1,1,1,1,1,1,3,1,1,1,1,1,1,1,1,1,1,1,1,1]) (tr:=[.reg [],.reg [.none,.none,(iI (x.num.length:Int)),.none,.none,.none,.none,(iI (x.den.length:Int)),.none,(.dec true),.none,.none,.none,(iI (x.num.length:Int)),.none,.none,.none,.none,(.row 0 (wordPV v)),.none,.none,.none,(.dec false),(.dec true),.none,.skip,.skip,.skip,.skip,.skip,.skip,.skip,.skip,.skip,.skip,.skip,.skip,(.dec false)]]) (cj (o_len wordPV x.num) (cj (dltN_t h1) (cj (dltN_t h1) (cj (dltN_t h1) (cj (o_len wordPV x.den) (cj (dltN_t h1) (cj (dltN_t h1) (cj (dltN_t h2) (cj (dltN_t h2) (cj (dltN_t h2) (cj (o_len wordPV x.num) (cj (dltN_t h2) (cj (dltN_t h2) (cj (deqN_f h3) (cj (deqN_f h3) (cj (deqN_f h3) (cj (o_at wordPV (Eq.refl (0:Int)) h4) (cj (deqN_f h3) (cj (deqN_f h3) (cj (deqN_f h3) (cj (dltN_t h2) (cj (deqN_f h3) (cj (dltN_t h2) (cj (dleN_f h5) (cj (dleN_f h5) (cj (dleN_f h5) (cj (dleN_f h5) (cj (dleN_f h5) (cj (dleN_f h5) (cj (dleN_f h5) True.intro)))))))))))))))))))))))))))))) (by kernel_rfl))
theorem e5(x:ARat)(num den:UInt32)(h1:x.num.length<2)(h2:2≤x.den.length):Contract prg 44 [x.pv,(vW num),(vW den)] (vB false) :=
 Contract.ofL Tryz.func44 (by kernel_rfl) (L.done mixed tabOk (n:=72) (ns:=[1,1,1,1,1,1,1,1,1,1,1,1,1,1,1,1,1,1,1,1]) (tr:=[.reg [],.reg [.none,.none,(iI (x.num.length:Int)),.none,.none,.none,.none,(iI (x.den.length:Int)),.none,(.dec true),.none,.skip,.skip,.skip,.skip,.skip,.skip,.skip,.skip,.skip,.skip,.skip,.skip,(.dec false),.none,.skip,.skip,.skip,.skip,.skip,.skip,.skip,.skip,.skip,.skip,.skip,.skip]]) (cj (o_len wordPV x.num) (cj (dltN_t h1) (cj (dltN_t h1) (cj (dltN_t h1) (cj (o_len wordPV x.den) (cj (dltN_t h1) (cj (dltN_t h1) (cj (dltN_f h2) (cj (dltN_f h2) (cj (dltN_f h2) (cj (dltN_f h2) (cj (dltN_f h2) (cj (dltN_f h2) (cj (dltN_f h2) (cj (Eq.refl false) (cj (Eq.refl false) (cj (Eq.refl false) (cj (Eq.refl false) (cj (Eq.refl false) (cj (Eq.refl false) True.intro)))))))))))))))))))) (by kernel_rfl))
theorem e6(x:ARat)(num den:UInt32)(h1:2≤x.num.length):Contract prg 44 [x.pv,(vW num),(vW den)] (vB false) :=
 Contract.ofL Tryz.func44 (by kernel_rfl) (L.done mixed tabOk (n:=72) (ns:=[1,1,1,1,1,1,1,1,1,1,1,1,1,1,1,1,1,1]) (tr:=[.reg [],.reg [.none,.none,(iI (x.num.length:Int)),.none,.none,.skip,.skip,.skip,.skip,(.dec false),.none,.skip,.skip,.skip,.skip,.skip,.skip,.skip,.skip,.skip,.skip,.skip,.skip,.none,.none,.skip,.skip,.skip,.skip,.skip,.skip,.skip,.skip,.skip,.skip,.skip,.skip]]) (cj (o_len wordPV x.num) (cj (dltN_f h1) (cj (dltN_f h1) (cj (dltN_f h1) (cj (dltN_f h1) (cj (dltN_f h1) (cj (Eq.refl false) (cj (Eq.refl false) (cj (Eq.refl false) (cj (Eq.refl false) (cj (Eq.refl false) (cj (Eq.refl false) (cj (Eq.refl false) (cj (Eq.refl false) (cj (Eq.refl false) (cj (Eq.refl false) (cj (Eq.refl false) (cj (Eq.refl false) True.intro)))))))))))))))))) (by kernel_rfl))
end linkworklaw06_low
end Go.Proofs.YtjadajceekjeoaaGreatDoor.Sym.Path
namespace Go.Proofs.YtjadajceekjeoaaGreatDoor.Sym
open Go Path CInt
set_option linter.unusedVariables false
namespace C06
theorem of(l:List Int)(h:∀n∈l,InI64 n)(hl:l.length≤1000):Contract prg 40 [lpv intCell l] (pq (l.map (fun n=>((n:Int):Rat)))):=by
 have loop:∀d t:Nat,l.length-t=d→t≤l.length→linkworklaw06_of.Loop1 (((l.take t).map (fun n=>((n:Int):Rat))).map mkR) l t (pq (l.map (fun n=>((n:Int):Rat)))):=by
  intro d
  induction d with
  |zero =>
   intro t hd ht
   have:t=l.length:=by omega
   subst this
   rw[List.take_length]
   exact linkworklaw06_of.l11 _ _ _ (Nat.le_refl _)
  |succ d ih =>
   intro t hd ht
   obtain⟨v,hv⟩:∃v,l[t]? = some v:=⟨_,List.getElem?_eq_getElem (by omega)⟩
   have:=ih (t+1) (by omega) (by omega)
   rw[List.take_add_one,hv] at this
   refine linkworklaw06_of.l10 _ l t v (mkR ((v:Int):Rat)) (by omega) hv (CRb.Of v (h v (List.mem_of_getElem? hv))) ?_ (by omega) ?_
   ·rw[List.length_append,List.length_map,List.length_map,List.length_take,List.length_singleton];omega
   ·simpa using this
 exact linkworklaw06_of.e0 l (loop _ 0 rfl (by omega))
def Lo(a:ARat):Prop:=a.num.length≤1∧a.den.length≤1∧nat a.num≤1000∧nat a.den≤1000
theorem nat_one{l:Words}{v:UInt32}(hl:l.length<2)(h:l[0]? = some v):nat l=v.toNat:=by
 match l,hl,h with
 |[w],_,h=>simp at h;subst h;simp[nat]
theorem nat_none{l:Words}(h:l.length=0):nat l=0:=by rw[List.eq_nil_of_length_eq_zero h];rfl
theorem low(x:ARat):∃b,Contract prg 44 [x.pv,vW 1000,vW 1000] (vB b)∧(b=true→Lo x):=by
 have e:(1000:UInt32).toNat=1000:=rfl
 by_cases h1:x.num.length<2
 ·by_cases h2:x.den.length<2
  ·have den:nat x.num≤1000→∀v u:UInt32,x.den[0]? = some u→decide (u.toNat≤(1000:UInt32).toNat)=true→Lo x:=fun h v u hu hd=>⟨by omega,by omega,h,by rw[nat_one h2 hu];have:=of_decide_eq_true hd;omega⟩
   by_cases h3:x.num.length=0
   ·have hn:nat x.num≤1000:=by rw[nat_none h3];omega
    by_cases h4:x.den.length=0
    ·exact⟨_,linkworklaw06_low.e0 x _ _ h1 h2 h3 h4,fun _=>⟨by omega,by omega,hn,by rw[nat_none h4];omega⟩⟩
    ·obtain⟨v,hv⟩:∃v,x.den[0]? = some v:=⟨_,List.getElem?_eq_getElem (by omega)⟩
     exact⟨_,linkworklaw06_low.e1 x _ _ v h1 h2 h3 h4 hv,fun h=>den hn v v hv (by have h':=of_decide_eq_true h;exact decide_eq_true (by omega))⟩
   ·obtain⟨v,hv⟩:∃v,x.num[0]? = some v:=⟨_,List.getElem?_eq_getElem (by omega)⟩
    by_cases h5:v.toNat≤(1000:UInt32).toNat
    ·have hn:nat x.num≤1000:=by rw[nat_one h1 hv];omega
     by_cases h4:x.den.length=0
     ·exact⟨_,linkworklaw06_low.e2 x _ _ v h1 h2 h3 hv h5 h4,fun _=>⟨by omega,by omega,hn,by rw[nat_none h4];omega⟩⟩
     ·obtain⟨u,hu⟩:∃v,x.den[0]? = some v:=⟨_,List.getElem?_eq_getElem (by omega)⟩
      exact⟨_,linkworklaw06_low.e3 x _ _ v u h1 h2 h3 hv h5 h4 hu,fun h=>den hn v u hu (by have h':=of_decide_eq_true h;exact decide_eq_true (by omega))⟩
    ·exact⟨_,linkworklaw06_low.e4 x _ _ v h1 h2 h3 hv (by omega),fun h=>by cases h⟩
  ·exact⟨_,linkworklaw06_low.e5 x _ _ h1 (by omega),fun h=>by cases h⟩
 ·exact⟨_,linkworklaw06_low.e6 x _ _ (by omega),fun h=>by cases h⟩
def ShP(p:List ARat):Prop:=(p.length≤7∨65<p.length∧p.length≤100)∧∀a∈p,Lo a
theorem short(p:List ARat):∃b,Contract prg 10 [polyPV p] (vB b)∧(b=true→ShP p):=by
 have loop:p.length≤100→∀d t:Nat,p.length-t=d→∃b,linkworklaw06_short.Loop1 p t (vB b)∧(b=true→∀a∈p.drop t,Lo a):=by
  intro hl d
  induction d with
  |zero =>
   intro t hd
   exact⟨true,linkworklaw06_short.l12 p t (by omega),fun _=>by rw[List.drop_of_length_le (by omega)];intro a ha;cases ha⟩
  |succ d ih =>
   intro t hd
   obtain⟨v,hv⟩:∃v,p[t]? = some v:=⟨_,List.getElem?_eq_getElem (by omega)⟩
   obtain⟨b1,h1,h2⟩:=low v
   cases b1 with
   |false=>exact⟨false,linkworklaw06_short.l10 p t v _ (by omega) hv h1 rfl,fun h=>by cases h⟩
   |true =>
    obtain⟨b,g1,g2⟩:=ih (t+1) (by omega)
    refine⟨b,linkworklaw06_short.l11 p t v _ (by omega) hv h1 rfl (by omega) g1,fun h a ha => ?_⟩
    rw[drop_cons hv] at ha
    rcases List.mem_cons.1 ha with rfl|ha
    ·exact h2 rfl
    ·exact g2 h a ha
 by_cases h6:p.length≤7
 ·obtain⟨b,h1,h2⟩:=loop (by omega) _ 0 rfl
  rw[List.drop_zero] at h2
  exact⟨b,linkworklaw06_short.e4 p h6 (by omega) h1,fun h=>⟨Or.inl h6,h2 h⟩⟩
 ·by_cases h7:p.length≤65
  ·exact⟨false,linkworklaw06_short.e0 p (by omega) h7,fun h=>by cases h⟩
  ·by_cases h8:p.length≤100
   ·obtain⟨b,h1,h2⟩:=loop (by omega) _ 0 rfl
    rw[List.drop_zero] at h2
    exact⟨b,linkworklaw06_short.e2 p (by omega) (by omega) h8 h1,fun h=>⟨Or.inr ⟨by omega,h8⟩,h2 h⟩⟩
   ·exact⟨false,linkworklaw06_short.e1 p (by omega) (by omega) (by omega),fun h=>by cases h⟩
theorem brief(p:List ARat):∃b,Contract prg 11 [polyPV p] (vB b)∧(b=true→∀a∈p,Lo a):=by
 obtain⟨b,h1,h2⟩:=short p
 exact⟨b,linkworklaw06_brief.e0 p b h1,fun h=>(h2 h).2⟩
theorem ShP.fit{p:List ARat}(h:ShP p){k:Nat}(hk:1≤k):FitP k p:=fun a ha=>⟨Nat.le_trans (h.2 a ha).1 hk,Nat.le_trans (h.2 a ha).2.1 hk⟩
theorem Lo.ht{a:ARat}(h:Lo a):ht a.val≤1:=ht_fit h.1 h.2.1 (by omega)
theorem fineF{q:List Rat}(z:lastZ q=false)(h0:q≠[])(hl:q.length≤7)(hf:Fl 1 q):Fine 13 7 q:=⟨z,h0,hl,(Ch.of_fl hf).mono (by omega),by omega,by omega,by decide +kernel⟩
theorem okF:IsoOK 13 7:=by decide +kernel
structure S6 (p:List ARat):Prop where
 pv:pq (vals p)=polyPV p
 fine:Fine 13 7 (vals p)
 fl:Bd (vals p)
theorem ShP.s6{p:List ARat}(h:ShP p)(hc:errC p=0):S6 p:=by
 unfold errC at hc
 by_cases h0:chk p=0
 ·rw[if_pos h0] at hc
  have hn:p.length≠0:=fun e=>by rw[if_pos e] at hc;exact absurd hc (by decide)
  have hl:=chk_len h0
  have pl:(vals p).length=p.length:=by unfold vals;rw[List.length_map]
  have ep:=vals_of (chk_valid h0)
  have hf:Fl 1 (vals p):=fl_vals (h.fit (by omega)) (by omega)
  refine⟨by unfold pq;rw[ep],fineF (chk_last h0) (fun e=>hn (by rw[←pl,e];rfl)) ?_ hf,hf.bd⟩
  rcases h.1 with h1|h1<;>omega
 ·rw[if_neg h0] at hc;exact absurd hc h0
theorem valid(p:List ARat):∃b,Contract prg 24 [polyPV p] (vB b)∧(b=true→S6 p):=by
 obtain⟨b,h1,h2⟩:=short p
 cases b with
 |false=>exact⟨false,linkworklaw06_valid.e1 p _ h1 rfl,fun h=>by cases h⟩
 |true =>
  have hs:=h2 rfl
  refine⟨_,linkworklaw06_valid.e0 p _ _ h1 rfl (CSr.bad (hs.fit (by omega))),fun h=>hs.s6 (by simpa using h)⟩
abbrev exA:List Rat:=[((-2:Int):Rat),((0:Int):Rat),((1:Int):Rat)]
abbrev exB:List Rat:=[((1:Int):Rat),((0:Int):Rat),((1:Int):Rat)]
abbrev exC:List Rat:=[((0:Int):Rat),((-1:Int):Rat),((0:Int):Rat),((1:Int):Rat)]
theorem text(a b:Rat)(hab:a≤b)(ha:a.num.natAbs<100)(hb:b.num.natAbs<100)(ha2:a.den<100)(hb2:b.den<100)(s1:(ratT a).size<1000)(s2:(ratT b).size<1000):Contract prg 45 [(mkG a b).pv] (.str (ratT a++ByteArray.mk #[46,46]++ratT b)):=by
 have h1:ht a≤1:=Nat.max_le.2 ⟨len_of_lt (by omega),len_of_lt (by rw[Int.natAbs_natCast];omega)⟩
 have h2:ht b≤1:=Nat.max_le.2 ⟨len_of_lt (by omega),len_of_lt (by rw[Int.natAbs_natCast];omega)⟩
 have hc:=CIv.clean (mkG a b) (fit_mkG (Nat.le_trans h1 (by omega)) (Nat.le_trans h2 (by omega)))
 rw[loG_mk hab,hiG_mk hab] at hc
 have e2:(ByteArray.mk #[46,46]).size=2:=rfl
 exact interval_Text.e0 _ (mkG a b) _ _ hc (CTx.fText_small a ha ha2) (by omega) (CTx.fText_small b hb hb2) (by rw[ByteArray.size_append];omega)
theorem awake:Contract prg 12 [] (vB true):=by
 have a1:=of [-2,0,1] (by unfold InI64;decide) (by decide)
 have a2:=of [1,0,1] (by unfold InI64;decide) (by decide)
 have a3:=of [0, -1,0,1] (by unfold InI64;decide) (by decide)
 have fA:Fl 1 exA:=by decide +kernel
 have fB:Fl 1 exB:=by decide +kernel
 have fC:Fl 1 exC:=by decide +kernel
 have FA:Fine 13 7 exA:=fineF (by decide +kernel) (by simp) (by decide) fA
 have FB:Fine 13 7 exB:=fineF (by decide +kernel) (by simp) (by decide) fB
 have FC:Fine 13 7 exC:=fineF (by decide +kernel) (by simp) (by decide) fC
 have b1:=CSt.All FA fA.bd
 have e1:chg (chainL exA) (-bndP exA)-chg (chainL exA) (bndP exA)=2:=by decide +kernel
 rw[e1] at b1
 have b2:=CSt.All FB fB.bd
 have e2:chg (chainL exB) (-bndP exB)-chg (chainL exB) (bndP exB)=0:=by decide +kernel
 rw[e2] at b2
 have i1:=CSt.Isolate FA fA.bd okF
 have e3:isoL 13 7 exA=[(-4,0),(0,4)]:=by decide +kernel
 rw[e3] at i1
 have i2:=CSt.Isolate FC fC.bd okF
 have e4:isoL 13 7 exC=[(-1, -1),(0,0),(1,1)]:=by decide +kernel
 rw[e4] at i2
 have r1:=CSt.Refine FA (lo:=0) (hi:=4) (bits:=1) (e:=2) ⟨by decide +kernel,by decide +kernel,by decide +kernel,by decide +kernel,by decide +kernel,by decide⟩ (by decide +kernel)
 have e5:refR exA 0 4 1 2=(1,Rat.divInt 3 2):=by decide +kernel
 rw[e5] at r1
 have n0:numT 0=ByteArray.mk #[48]:=by unfold numT;rw[if_neg (by decide),show(0:Int).natAbs=0 from rfl,dig_small (by omega)];rfl
 have n1:numT 1=ByteArray.mk #[49]:=by unfold numT;rw[if_neg (by decide),show(1:Int).natAbs=1 from rfl,dig_small (by omega)];rfl
 have n2:numT 2=ByteArray.mk #[50]:=by unfold numT;rw[if_neg (by decide),show(2:Int).natAbs=2 from rfl,dig_small (by omega)];rfl
 have n3:numT 3=ByteArray.mk #[51]:=by unfold numT;rw[if_neg (by decide),show(3:Int).natAbs=3 from rfl,dig_small (by omega)];rfl
 have m1:numT (-1)=ByteArray.mk #[45,49]:=by unfold numT;rw[if_pos (by decide),show(-1:Int).natAbs=1 from rfl,dig_small (by omega)];decide +kernel
 have m4:numT (-4)=ByteArray.mk #[45,52]:=by unfold numT;rw[if_pos (by decide),show(-4:Int).natAbs=4 from rfl,dig_small (by omega)];decide +kernel
 have t0:ratT 0=ByteArray.mk #[48]:=by unfold ratT;rw[if_pos (by decide),show(0:Rat).num=0 from rfl,n0]
 have t1:ratT 1=ByteArray.mk #[49]:=by unfold ratT;rw[if_pos (by decide),show(1:Rat).num=1 from rfl,n1]
 have tm1:ratT (-1)=ByteArray.mk #[45,49]:=by unfold ratT;rw[if_pos (by decide),show(-1:Rat).num = -1 from rfl,m1]
 have tm4:ratT (-4)=ByteArray.mk #[45,52]:=by unfold ratT;rw[if_pos (by decide),show(-4:Rat).num = -4 from rfl,m4]
 have t32:ratT (Rat.divInt 3 2)=ByteArray.mk #[51,47,50]:=by
  have en:(Rat.divInt 3 2).num=3:=by decide +kernel
  have ed:((Rat.divInt 3 2).den:Int)=2:=by decide +kernel
  unfold ratT
  rw[if_neg (by rw[ed];decide),en,ed,n3,n2]
  decide +kernel
 have x1:=text (-4) 0 (by decide +kernel) (by decide +kernel) (by decide +kernel) (by decide +kernel) (by decide +kernel) (by rw[tm4];decide) (by rw[t0];decide)
 have x2:=text 1 (Rat.divInt 3 2) (by decide +kernel) (by decide +kernel) (by decide +kernel) (by decide +kernel) (by decide +kernel) (by rw[t1];decide) (by rw[t32];decide)
 have x3:=text (-1) (-1) (by decide +kernel) (by decide +kernel) (by decide +kernel) (by decide +kernel) (by decide +kernel) (by rw[tm1];decide) (by rw[tm1];decide)
 rw[tm4,t0] at x1
 rw[t1,t32] at x2
 rw[tm1] at x3
 exact linkworklaw06_awake.e3 _ _ _ _ _ _ _ (mkG 0 4) (mkG 1 (Rat.divInt 3 2)) _ _ (mkG (-4) 0) _ _ (mkG (-1) (-1)) _ a1 b1 a1 i1 a2 b2 rfl rfl rfl a1 rfl r1 a3 i2 rfl x1 (by decide +kernel) x2 (by decide +kernel) rfl rfl x3
end C06
end Go.Proofs.YtjadajceekjeoaaGreatDoor.Sym
namespace Go.Proofs.YtjadajceekjeoaaGreatDoor.Sym.Path
open Go
set_option maxRecDepth 20000
set_option linter.unusedVariables false
namespace linkworklaw06_SturmAdds
@[reducible] noncomputable def fn:Func:=Tryz.f5
noncomputable def atK1:List Itm:=focus [0,2,0,0,2,1,2,0,0,2,0,0] [.code (bodyOf fn)]
def inv1(p:List ARat)(x:AArr3Rat)(t_42:Nat):St:=⟨[(0,(.pv (polyPV p))),(3,(.ptr 3 0)),(41,(.pv x.pv)),(42,(eI (t_42:Int)))],[(3,(.lit [(eB x.f0.neg),(.pv (wordsPV x.f0.num)),(.pv (wordsPV x.f0.den)),(eB x.f1.neg),(.pv (wordsPV x.f1.num)),(.pv (wordsPV x.f1.den)),(eB x.f2.neg),(.pv (wordsPV x.f2.num)),(.pv (wordsPV x.f2.den))]))]⟩
@[reducible] noncomputable def Loop1(p:List ARat)(x:AArr3Rat)(t_42:Nat)(r:PV):Prop:=L prg fn atK1 (inv1 p x t_42) r
theorem e0(p:List ARat)(x:AArr3Rat)(val awa:Bool)(h1:Contract prg 24 [(polyPV p)] (vB val))(h2:val=false)(h3:Contract prg 12 [] (vB awa)):Contract prg 5 [(polyPV p),x.pv] (vB awa) :=
 Contract.ofL Tryz.func5 (by kernel_rfl) (L.done mixed tabOk (n:=84) (ns:=[1,1,1,1,1,1,1,1,1,1,1,1,1,1]) (tr:=[.reg [],.reg [.none,(.pv (vB val)),.none,.none,.skip,.skip,.skip,.skip,.skip,.skip,.skip,.skip,.skip,(.dec true),.none,.skip,.skip],.auto,.reg [(.pv (vB awa))]]) (cj h1 (cj (bnot_t h2) (cj (bnot_t h2) (cj (bnot_t h2) (cj (bnot_t h2) (cj (bnot_t h2) (cj (bnot_t h2) (cj (bnot_t h2) (cj (bnot_t h2) (cj (bnot_t h2) (cj (bnot_t h2) (cj (Eq.refl true) (cj (Eq.refl true) (cj h3 True.intro)))))))))))))) (by kernel_rfl))
theorem e1(p:List ARat)(x:AArr3Rat)(val bri awa:Bool)(h1:Contract prg 24 [(polyPV p)] (vB val))(h2:val=true)(h3:Contract prg 11 [(polyPV [x.f0,x.f1,x.f2])] (vB bri))(h4:bri=false)(h5:Contract prg 12 [] (vB awa)):Contract prg 5 [(polyPV p),x.pv] (vB awa) :=
 Contract.ofL Tryz.func5 (by kernel_rfl) (L.done mixed tabOk (n:=84) (ns:=[1,1,2,1,1,2,1,1,2,1,1,3,1,1,1,1,1,1,1,1]) (tr:=[.reg [],.reg [.none,(.pv (vB val)),.none,.none,(.nat 0),.none,(.nat 1),.none,(.nat 2),.none,(.slc 0 0 (([x.f0,x.f1,x.f2]:List ARat).map ARat.cells)),(.pv (vB bri)),.none,(.dec false),.none,.skip,.skip,(.dec true)],.auto,.reg [(.pv (vB awa))]]) (cj h1 (cj (bnot_f h2) (cj (cj (Eq.refl (0:Int)) (show (0:Nat)<3 by decide)) (cj (bnot_f h2) (cj (bnot_f h2) (cj (cj (Eq.refl (1:Int)) (show (1:Nat)<3 by decide)) (cj (bnot_f h2) (cj (bnot_f h2) (cj (cj (Eq.refl (2:Int)) (show (2:Nat)<3 by decide)) (cj (bnot_f h2) (cj (bnot_f h2) (cj (o_bs sz_ARat ([x.f0,x.f1,x.f2]:List ARat)) (cj (bnot_f h2) (cj h3 (cj (bnot_f h2) (cj (bnot_f h2) (cj (bnot_t h4) (cj (bnot_t h4) (cj (bnot_t h4) (cj h5 True.intro)))))))))))))))))))) (by kernel_rfl))
theorem e3(p:List ARat)(x:AArr3Rat)(val bri awa:Bool){r:PV}(h1:Contract prg 24 [(polyPV p)] (vB val))(h2:val=true)(h3:Contract prg 11 [(polyPV [x.f0,x.f1,x.f2])] (vB bri))(h4:bri=true)(h5:Contract prg 12 [] (vB awa))(h6:awa=true)(hL:Loop1 p x 0 r):Contract prg 5 [(polyPV p),x.pv] r :=
 Contract.ofL Tryz.func5 (by kernel_rfl) (L.go mixed tabOk (n:=96) (ns:=[1,1,2,1,1,2,1,1,2,1,1,3,1,1,1,1,1,1,1,1,1]) (tr:=[.reg [],.reg [.none,(.pv (vB val)),.none,.none,(.nat 0),.none,(.nat 1),.none,(.nat 2),.none,(.slc 0 0 (([x.f0,x.f1,x.f2]:List ARat).map ARat.cells)),(.pv (vB bri)),.none,(.dec false),.none,(.pv (vB awa)),.none,(.dec false)],.dec false,.reg [],.keep [0,3,41,42]]) (cj h1 (cj (bnot_f h2) (cj (cj (Eq.refl (0:Int)) (show (0:Nat)<3 by decide)) (cj (bnot_f h2) (cj (bnot_f h2) (cj (cj (Eq.refl (1:Int)) (show (1:Nat)<3 by decide)) (cj (bnot_f h2) (cj (bnot_f h2) (cj (cj (Eq.refl (2:Int)) (show (2:Nat)<3 by decide)) (cj (bnot_f h2) (cj (bnot_f h2) (cj (o_bs sz_ARat ([x.f0,x.f1,x.f2]:List ARat)) (cj (bnot_f h2) (cj h3 (cj (bnot_f h2) (cj (bnot_f h2) (cj (bnot_f h4) (cj h5 (cj (bnot_f h4) (cj (bnot_f h4) (cj (bnot_f h6) True.intro))))))))))))))))))))) (by kernel_rfl) hL)
theorem l10(p:List ARat)(x:AArr3Rat)(t_42:Nat)(v:ARat)(val:Bool)(h1:t_42<3)(h2:([x.f0,x.f1,x.f2]:List ARat)[t_42]? = some v)(h3:Contract prg 25 [v.pv] (vB val))(h4:val=false):Loop1 p x t_42 (vB true) :=
 L.done mixed tabOk (n:=141) (ns:=[1,4,1,1]) (tr:=[.auto,.reg [],.dec true,.reg [(.row t_42 (ARat.cells v))],.reg [.none,(.pv (vB val))],.dec true,.reg []]) (cj (dltN_t h1) (cj (o_arr sz_ARat (xs:=([x.f0,x.f1,x.f2]:List ARat)) rfl rfl (Eq.refl (((t_42:Nat):Int):Int)) h2) (cj h3 (cj (bnot_t h4) True.intro)))) (by kernel_rfl)
theorem l11(p:List ARat)(x:AArr3Rat)(t_42:Nat)(v:ARat)(val:Bool){r:PV}(h1:t_42<3)(h2:([x.f0,x.f1,x.f2]:List ARat)[t_42]? = some v)(h3:Contract prg 25 [v.pv] (vB val))(h4:val=true)(h5:(t_42+1)<9223372036854775808)(hL:Loop1 p x (t_42+1) r):Loop1 p x t_42 r :=
 L.go mixed tabOk (n:=144) (ns:=[1,4,1,1,1]) (tr:=[.auto,.reg [],.dec true,.reg [(.row t_42 (ARat.cells v))],.reg [.none,(.pv (vB val))],.dec false,.reg [(iI (((t_42+1):Nat):Int))],.keep [0,3,41,42],.drop [6]]) (cj (dltN_t h1) (cj (o_arr sz_ARat (xs:=([x.f0,x.f1,x.f2]:List ARat)) rfl rfl (Eq.refl (((t_42:Nat):Int):Int)) h2) (cj h3 (cj (bnot_f h4) (cj (bs_addN h5) True.intro))))) (by kernel_rfl) hL
theorem l12(p:List ARat)(x:AArr3Rat)(t_42:Nat)(minV minV1 maxV maxV1 add add1 add2 sub:ARat)(cou cou2 cou4 all:Int)(bou neg:ARat)(cou6:Int)(h1:3≤t_42)(h2:Contract prg 26 [x.f1.pv,x.f2.pv] minV.pv)(h3:Contract prg 26 [x.f0.pv,minV.pv] minV1.pv)(h4:Contract prg 27 [x.f1.pv,x.f2.pv] maxV.pv)(h5:Contract prg 27 [x.f0.pv,maxV.pv] maxV1.pv)(h6:Contract prg 29 [x.f1.pv,x.f2.pv] add.pv)(h7:Contract prg 29 [x.f0.pv,add.pv] add1.pv)(h8:Contract prg 29 [minV1.pv,maxV1.pv] add2.pv)(h9:Contract prg 28 [add1.pv,add2.pv] sub.pv)(h10:Contract prg 13 [(polyPV p),minV1.pv,sub.pv] (.tup [(vI cou),.nilI]))(h11:Contract prg 13 [(polyPV p),sub.pv,maxV1.pv] (.tup [(vI cou2),.nilI]))(h12:Contract prg 13 [(polyPV p),minV1.pv,maxV1.pv] (.tup [(vI cou4),.nilI]))(h13:Contract prg 14 [(polyPV p)] (.tup [(vI all),.nilI]))(h14:Contract prg 15 [(polyPV p)] (.tup [bou.pv,.nilI]))(h15:Contract prg 30 [bou.pv] neg.pv)(h16:Contract prg 13 [(polyPV p),neg.pv,bou.pv] (.tup [(vI cou6),.nilI]))(h17:0≤cou)(h18:0≤cou2)(h19:InI64 (cou+cou2))(h20:(cou+cou2)=cou4)(h21:all=cou6):Loop1 p x t_42 (vB (decide (cou4≤all))) :=
 L.done mixed tabOk (n:=183) (ns:=[1,2,2,2,1,1,2,2,2,1,1,2,2,2,1,1,1,1,1,1,1,1,1,1,1,1,1,1,1,1,1,1,1,1,1,1,1,1,1,1,1,1,1,1,1,1,1,1,1,1,1,1,1,1,1]) (tr:=[.auto,.reg [],.dec false,dr 9 1 [(.nat 0),.none,(.nat 1),.none,(.nat 2),.none,(.pv minV.pv),(.pv minV1.pv)],dr 9 1 [(.nat 0),.none,(.nat 1),.none,(.nat 2),.none,(.pv maxV.pv),(.pv maxV1.pv)],dr 13 1 [(.nat 0),.none,(.nat 1),.none,(.nat 2),.none,(.pv add.pv),(.pv add1.pv),.none,.none,(.pv add2.pv),(.pv sub.pv)],.reg [.none,.none,.none,(.pv (.tup [(vI cou),.nilI]))],.reg [.none,.none,.none,(.pv (.tup [(vI cou2),.nilI]))],.reg [.none,.none,.none,(.pv (.tup [(vI cou4),.nilI]))],.reg [.none,(.pv (.tup [(vI all),.nilI]))],.reg [.none,(.pv (.tup [bou.pv,.nilI]))],dr 9 1 [.none,.none,(.pv neg.pv),.none,(.pv (.tup [(vI cou6),.nilI]))],.reg [.none,.none,.none,.none,.none,.none,.none,.none,.none,.none,.none,.none,.none,.none,.none,.none,.none,.none,.none,.none,.none,.none,.none,.none,.none,.none,.none,.none,.none,(.dec true),.none,.none,.none,(iI (cou+cou2)),.none,.none,(.dec true),.none,.none,.none,.none,(.dec true),.none,.none,.none,.none,(.dec true)]]) (cj (dltN_f h1) (cj (cj (Eq.refl (0:Int)) (show (0:Nat)<3 by decide)) (cj (cj (Eq.refl (1:Int)) (show (1:Nat)<3 by decide)) (cj (cj (Eq.refl (2:Int)) (show (2:Nat)<3 by decide)) (cj h2 (cj h3 (cj (cj (Eq.refl (0:Int)) (show (0:Nat)<3 by decide)) (cj (cj (Eq.refl (1:Int)) (show (1:Nat)<3 by decide)) (cj (cj (Eq.refl (2:Int)) (show (2:Nat)<3 by decide)) (cj h4 (cj h5 (cj (cj (Eq.refl (0:Int)) (show (0:Nat)<3 by decide)) (cj (cj (Eq.refl (1:Int)) (show (1:Nat)<3 by decide)) (cj (cj (Eq.refl (2:Int)) (show (2:Nat)<3 by decide)) (cj h6 (cj h7 (cj h8 (cj h9 (cj h10 (cj h11 (cj h12 (cj h13 (cj h14 (cj h15 (cj h16 (cj (Eq.refl true) (cj (Eq.refl true) (cj (Eq.refl true) (cj (Eq.refl true) (cj (Eq.refl true) (cj (Eq.refl true) (cj (Eq.refl true) (cj (Eq.refl true) (cj (Eq.refl true) (cj (Eq.refl true) (cj (Eq.refl true) (cj (Eq.refl true) (cj (dle_t h17) (cj (dle_t h17) (cj (dle_t h17) (cj (dle_t h18) (cj (dle_t h18) (cj (dle_t h18) (cj (bs_add h19) (cj (dle_t h18) (cj (dle_t h18) (cj (dle_t h18) (cj (deq_t h20) (cj (deq_t h20) (cj (deq_t h20) (cj (deq_t h20) (cj (deq_t h21) (cj (deq_t h21) (cj (deq_t h21) (cj (deq_t h21) True.intro))))))))))))))))))))))))))))))))))))))))))))))))))))))) (by kernel_rfl)
end linkworklaw06_SturmAdds
end Go.Proofs.YtjadajceekjeoaaGreatDoor.Sym.Path
namespace Go.Proofs.YtjadajceekjeoaaGreatDoor.Sym
open Go Path CInt
set_option linter.unusedVariables false
theorem med{a b c:Rat} : minR a (minR b c)≤a+(b+c)-(minR a (minR b c)+maxR a (maxR b c))∧a+(b+c)-(minR a (minR b c)+maxR a (maxR b c))≤maxR a (maxR b c):=by
 unfold minR maxR
 simp only[cmpR_le,cmpR_ge]
 constructor<;>(repeat' split)<;>grind
namespace C06
theorem SturmAdds(p:List ARat)(x:AArr3Rat){A B:Prop}(_:A)(_:B):Contract prg 5 [polyPV p,x.pv] (vB true):=by
 obtain⟨b1,h1,g1⟩:=valid p
 cases b1 with
 |false=>exact linkworklaw06_SturmAdds.e0 p x _ _ h1 rfl awake
 |true =>
  obtain⟨b2,h2,g2⟩:=brief [x.f0,x.f1,x.f2]
  cases b2 with
  |false=>exact linkworklaw06_SturmAdds.e1 p x _ _ _ h1 rfl h2 rfl awake
  |true =>
   have s:=g1 rfl
   have l0:=g2 rfl x.f0 (by simp)
   have l1:=g2 rfl x.f1 (by simp)
   have l2:=g2 rfl x.f2 (by simp)
   have v0:=CRb.Valid x.f0 ⟨by have:=l0.1;omega,by have:=l0.2.1;omega⟩
   have v1:=CRb.Valid x.f1 ⟨by have:=l1.1;omega,by have:=l1.2.1;omega⟩
   have v2:=CRb.Valid x.f2 ⟨by have:=l2.1;omega,by have:=l2.2.1;omega⟩
   have fin:x.f0.valid=true→x.f1.valid=true→x.f2.valid=true→linkworklaw06_SturmAdds.Loop1 p x 3 (vB true):=by
    intro e0 e1 e2
    have t0:=l0.ht
    have t1:=l1.ht
    have t2:=l2.ht
    have a0:=mkR_of e0
    have a1:=mkR_of e1
    have a2:=mkR_of e2
    generalize x.f0.val=a at t0 a0
    generalize x.f1.val=b at t1 a1
    generalize x.f2.val=c at t2 a2
    have m1:=QF.Min b c (by omega) (by omega)
    have k1:=ht_min b c (k:=1) t1 t2
    have m2:=QF.Min a (minR b c) (by omega) (by omega)
    have k2:=ht_min a (minR b c) (k:=1) t0 k1
    have m3:=QF.Max b c (by omega) (by omega)
    have k3:=ht_max b c (k:=1) t1 t2
    have m4:=QF.Max a (maxR b c) (by omega) (by omega)
    have k4:=ht_max a (maxR b c) (k:=1) t0 k3
    have s1:=QF.Add b c (by omega) (by omega)
    have k5:=ht_add b c
    have s2:=QF.Add a (b+c) (by omega) (by omega)
    have k6:=ht_add a (b+c)
    have s3:=QF.Add (minR a (minR b c)) (maxR a (maxR b c)) (by omega) (by omega)
    have k7:=ht_add (minR a (minR b c)) (maxR a (maxR b c))
    have s4:=QF.Sub (a+(b+c)) (minR a (minR b c)+maxR a (maxR b c)) (by omega) (by omega)
    have k8:=ht_sub (a+(b+c)) (minR a (minR b c)+maxR a (maxR b c))
    obtain⟨o1,o2⟩:=med (a:=a) (b:=b) (c:=c)
    generalize minR a (minR b c)=lo at *
    generalize maxR a (maxR b c)=hi at *
    generalize a+(b+c)-(lo+hi)=mid at *
    have c1:=CSt.Count s.fine lo mid o1 (by omega) (by omega)
    have c2:=CSt.Count s.fine mid hi o2 (by omega) (by omega)
    have c3:=CSt.Count s.fine lo hi (Rat.le_trans o1 o2) (by omega) (by omega)
    have d1:=CSt.All s.fine s.fl
    have d2:=CSt.Bound s.fine s.fl
    have hb:=bnd_ht s.fl
    have hb0:=bnd_pos (vals p)
    have d3:=QF.Neg (bndP (vals p)) (by omega)
    have c4:=CSt.Count s.fine (-bndP (vals p)) (bndP (vals p)) (by grind) (by rw[ht_neg];omega) (by omega)
    rw[s.pv] at c1 c2 c3 c4 d1 d2
    have n1:=count_nonneg s.fine.zp s.fine.ne o1
    have n2:=count_nonneg s.fine.zp s.fine.ne o2
    have n3:=count_le_all s.fine.zp s.fine.ne (bnd_cau s.fine.zp s.fine.ne s.fl) (Rat.le_of_lt hb0) (Rat.le_trans o1 o2)
    have hcc:=s.fine.chain_count
    obtain⟨r1,r2⟩:=chg_range (chainL (vals p)) lo
    obtain⟨r3,r4⟩:=chg_range (chainL (vals p)) hi
    rw[a1,a2] at m1 m3 s1
    rw[a0] at m2 m4 s2
    have:=linkworklaw06_SturmAdds.l12 p x 3 _ _ _ _ _ _ _ _ _ _ _ _ _ _ _ (by omega) m1 m2 m3 m4 s1 s2 s3 s4 c1 c2 c3 d1 d2 d3 c4 n1 n2 (by unfold InI64;omega) (by omega) rfl
    rwa[decide_eq_true n3] at this
   have go2:x.f0.valid=true→x.f1.valid=true→linkworklaw06_SturmAdds.Loop1 p x 2 (vB true):=by
    intro e0 e1
    cases e2:x.f2.valid with
    |false=>exact linkworklaw06_SturmAdds.l10 p x 2 x.f2 _ (by omega) rfl v2 e2
    |true=>exact linkworklaw06_SturmAdds.l11 p x 2 x.f2 _ (by omega) rfl v2 e2 (by omega) (fin e0 e1 e2)
   have go1:x.f0.valid=true→linkworklaw06_SturmAdds.Loop1 p x 1 (vB true):=by
    intro e0
    cases e1:x.f1.valid with
    |false=>exact linkworklaw06_SturmAdds.l10 p x 1 x.f1 _ (by omega) rfl v1 e1
    |true=>exact linkworklaw06_SturmAdds.l11 p x 1 x.f1 _ (by omega) rfl v1 e1 (by omega) (go2 e0 e1)
   refine linkworklaw06_SturmAdds.e3 p x _ _ _ h1 rfl h2 rfl awake rfl ?_
   cases e0:x.f0.valid with
   |false=>exact linkworklaw06_SturmAdds.l10 p x 0 x.f0 _ (by omega) rfl v0 e0
   |true=>exact linkworklaw06_SturmAdds.l11 p x 0 x.f0 _ (by omega) rfl v0 e0 (by omega) (go1 e0)
end C06
end Go.Proofs.YtjadajceekjeoaaGreatDoor.Sym
namespace Go.Proofs.YtjadajceekjeoaaGreatDoor.Sym
open Go Go.RowKit Go.ChangeShapes Go.WideShapes Go.ChangeAt
set_option linter.unusedVariables false
namespace RowSturmAdds
theorem own:ownKnob Tryz.prog.godebug=none:=by kernel_rfl
theorem laid:laidOutB prg=true:=by kernel_rfl
theorem okArg{P:Program}{W:World}{base:Nat}{ps:Array TypeId}{args:Array Value}(hval:∀(j:Nat) t v,ps[j]? = some t→args[j]? = some v→Value.okWide P W .any base t v)(j:Nat){t:TypeId}{v:Value}(h1:ps[j]? = some t)(h2:args[j]? = some v):Value.okWide P W .any base t v:=hval j t v h1 h2
set_option maxRecDepth 100000 in
theorem contract(H:Type)(enc:TypeId×Value→H)(W:World)(base:Nat)(args:Array Value)(ds gs:List (DataW H))(before:List MemPlace)
  (hval:∀(j:Nat) t v,Tryz.f5.params[j]? = some t→args[j]? = some v→Value.okWide Tryz.prog W .any base t v)
  (hW:DataW.Whole enc Tryz.prog Tryz.f5.params.toList Rows.sturmAddsSpec.vars false W args.toList ds gs before)
  (hz:(DataW.weightsEach Tryz.prog (Tryz.f5.params.toList++Rows.sturmAddsSpec.plain.varTypes Tryz.prog) (ds++gs)).all (·≤reachBytes)=true) :
  Calls Tryz.prog 5 args W fun e W'=>∃v,e = .returned v∧Rows.sturmAddsSpec.post enc Tryz.prog Tryz.f5 false true false false W args v W':=by
 have hW':=hW
 obtain⟨p,q,hA,hV,rfl,hfz,hnd⟩:=hW
 have hp:Tryz.f5.params = #[23,53]:=by kernel_rfl
 rw[hp] at hA hval hz
 obtain⟨v0,vs0,d0,ds0,p0,q0,hargs,rfl,rfl,h0,r0⟩:=trodAll_cons hA
 obtain⟨v1,vs1,d1,ds1,p1,q1,rfl,rfl,rfl,h1,r1⟩:=trodAll_cons r0
 obtain⟨rfl,rfl,rfl⟩:=trodAll_nil r1
 obtain rfl:args = #[v0,v1]:=by cases args;simp_all
 obtain⟨rfl,rfl⟩:=trodVars_none hV
 obtain⟨n0,hn0⟩:=h0
 have hw0:∀k∈d0.weights prg 23,k≤reachBytes:=by
  intro k hk
  have:=List.all_eq_true.1 hz k (DataW.weights_mem_each (j:=0) rfl rfl k hk)
  simpa using this
 obtain⟨x0,hx0,b0⟩:=opens_poly enc W 0 (fun _=>true) true n0 _ _ hn0 hw0
 obtain⟨ra0,rl0,rc0,rfl⟩:=okWide_slice (show Tryz.prog.underlying 23=some (.slice 26) by kernel_rfl) (okArg hval 0 (t:=23) (v:=v0) (by simp) (by simp))
 have hrd0:Rd (Old W) W (polyPV x0) (.slice ra0 rl0 rc0):=(hx0.2 0 _ _ rfl rfl).2
 obtain⟨n1,hn1⟩:=h1
 have hw1:∀k∈d1.weights prg 53,k≤reachBytes:=by
  intro k hk
  have:=List.all_eq_true.1 hz k (DataW.weights_mem_each (j:=1) rfl rfl k hk)
  simpa using this
 obtain⟨x1,hx1,b1⟩:=opens_AArr3Rat enc W 0 (fun _=>true) true n1 _ _ hn1 hw1
 have hv1:Value.okWide Tryz.prog W .any base 53 v1:=okArg hval 1 (by simp) (by simp)
 have hrd1:Rd (Old W) W x1.pv v1:=rd_array (P:=Tryz.prog) (cs:=x1.cells) (show prg.underlying 53=some (.array 3 26) by kernel_rfl) hv1 hx1
 have hc:=C06.SturmAdds x0 x1 b0 b1
 refine(hc.2 (Old W) W (fun _=>none) #[.slice ra0 rl0 rc0,v1] (fun b hb=>hb) ⟨(fun r sc h=>by cases h),(fun r r' b h=>by obtain⟨_,h⟩:=h)⟩ rfl ?_).mono ?_
 ·intro j e v he hv
  cases j with
  |zero=>simp at he hv;subst he hv;exact hrd0
  |succ j =>
   cases j with
   |zero=>simp at he hv;subst he hv;exact hrd1
   |succ j=>simp at he
 ·intro e W' ⟨v,β',he,_,hk,_,hv,_⟩
  subst he
  have hv:Rd _ W' (vB true) v:=hv
  cases hv
  have hk':Keeps (fun _=>False) W W':=⟨hk.os,hk.tape,hk.output,hk.size,fun k h1 _=>hk.block k h1 (fun ⟨y,hy,_⟩=>by obtain⟨_,hy⟩:=hy),hk.shape,hk.drawn⟩
  refine⟨_,rfl,post_true (tb:=4) hW' hk' rfl (by kernel_rfl) (by kernel_rfl) rfl rfl rfl laid ?_⟩
  rw[hp]
  intro t ht
  have:t=23∨t=53:=by simpa using ht
  rcases this with rfl|rfl
  all_goals exact⟨by kernel_rfl,of_decide_eq_true (by kernel_rfl)⟩
def tabCells:DataW Unit→Array Value
 |.agg l=>(l.map fun d=>match d with
  |.lit (.int k n)=>Value.int k n
  |_=>Value.nilIface).toArray
 |_ => #[]
def setTab(b:Nat)(d:DataW Unit)(h:Array Obj):Array Obj:=h.modify b fun
 |.cells _ t fr => .cells (tabCells d) t fr
 |o=>o
noncomputable def laidWorld(os:Os):World :=
 { World.holding Tryz.prog os ⟨#[],#[],[]⟩ with heap:=setTab 0 Rows.laid_internal_strconv_uint64pow10 (setTab 2 Rows.laid_math_bits_deBruijn32tab (setTab 3 Rows.laid_math_bits_deBruijn64tab (World.holding Tryz.prog os ⟨#[],#[],[]⟩).heap)) }
theorem laid_met(os:Os):laidMet Tryz.prog Rows.sturmAddsRow.laid ((laidWorld os).forCall (fun _ _=>0) ⟨#[],#[.slice none 0 0,.agg #[.bool false,.slice none 0 0,.slice none 0 0,.bool false,.slice none 0 0,.slice none 0 0,.bool false,.slice none 0 0,.slice none 0 0]],[]⟩).memory :=
 laidMet_of_run' 8 (by kernel_rfl) (by kernel_rfl)
theorem reads(os:Os){H:Type}(enc:TypeId×Value→H):(DataW.whole enc Tryz.prog ((laidWorld os).forCall (fun _ _=>0) ⟨#[],#[.slice none 0 0,.agg #[.bool false,.slice none 0 0,.slice none 0 0,.bool false,.slice none 0 0,.slice none 0 0,.bool false,.slice none 0 0,.slice none 0 0]],[]⟩).memory Tryz.f5.params.toList Rows.sturmAddsSpec.vars false (#[.slice none 0 0,.agg #[.bool false,.slice none 0 0,.slice none 0 0,.bool false,.slice none 0 0,.slice none 0 0,.bool false,.slice none 0 0,.slice none 0 0]]:Array Value).toList 8).isSome=true:=by kernel_rfl
set_option maxRecDepth 100000 in
theorem lifted(os:Os)(started:os.Started)(H:Type)(enc:TypeId×Value→H)(F:Stop.Interp) :
  ReturnsInHanded {} Tryz.checked os 5 .any ((OpenSpec.ofChange Rows.sturmAddsSpec).preRow enc Tryz.prog Tryz.f5 Rows.sturmAddsRow.domain false Rows.sturmAddsRow.laid) (((OpenSpec.ofChange Rows.sturmAddsSpec).at F).post enc Tryz.prog Tryz.f5 false true false false):=by
 obtain⟨x,hx⟩:=Option.isSome_iff_exists.1 (reads os enc)
 refine returnsInHanded_of_row (C:=Tryz.checked) (s:=OpenSpec.ofChange Rows.sturmAddsSpec) own started (by kernel_rfl) Tryz.func5
  (witness_row_at (enc:=enc) (C:=Tryz.checked) false (laidWorld os) #[.slice none 0 0,.agg #[.bool false,.slice none 0 0,.slice none 0 0,.bool false,.slice none 0 0,.slice none 0 0,.bool false,.slice none 0 0,.slice none 0 0]] rfl (by kernel_rfl) (by kernel_rfl) (by kernel_rfl)
   (OpenSpec.preRow_of_cond 8 hx (by kernel_rfl) (fun k hk=>by cases hk) (by kernel_rfl) (laid_met os))) ?_
 intro W base args ds gs before hval hW _ _ hz hL _ _
 exact contract H enc W base args ds gs before hval hW hz
theorem j1:(Rows.sturmAddsRow.inPlace==Tryz.prog.inPlace 5)=true:=by kernel_rfl
theorem j2:(Rows.sturmAddsRow.unfollowed==Tryz.prog.unfollowed 5)=true:=by kernel_rfl
theorem j3:(Rows.sturmAddsRow.recurses==Tryz.prog.recurses 5)=true:=by kernel_rfl
theorem j4:(Rows.sturmAddsRow.named==Tryz.prog.varsNamed 5)=true:=by kernel_rfl
theorem closed:joinedFacts Tryz.prog 5 Tryz.f5 Rows.sturmAddsSpec Rows.sturmAddsRow=true:=by
 unfold joinedFacts
 rw[j1,j2,j3,j4]
 kernel_rfl
set_option maxRecDepth 100000 in
theorem said:Rows.SturmAddsSaid :=
 OpenClaim.holds_of_cond 5 Tryz.f5 rfl rfl rfl rfl rfl rfl rfl ⟨rfl,rfl,rfl,rfl,rfl⟩ rfl rfl rfl rfl rfl (by kernel_rfl) Tryz.func5 closed
  (of_decide_eq_true (by kernel_rfl)) (by unfold Func.isWrapper;first|(rw [if_pos (by decide +kernel)];kernel_rfl)|(rw [if_neg (by decide +kernel)];exact⟨rfl,rfl⟩))
  (fun os started H enc _ F=>by rw[OpenClaim.pre_eq_preRow];exact lifted os started H enc F)
theorem plainL(f:FuncId)(fn:Func)(hf:Tryz.pinned.checked.prog.funcNamed Rows.sturmAddsRow.func=some f)(hfn:Tryz.pinned.checked.prog.funcs[f]? = some fn) :
  true=Tryz.pinned.checked.prog.looks []∧∀(j:Nat) t,fn.params[j]? = some t→Tryz.pinned.checked.prog.wantsStandIn t=false:=by
 obtain rfl:f=5:=Option.some.inj ((show Tryz.prog.funcNamed Rows.sturmAddsRow.func=some 5 by kernel_rfl).symm.trans hf) |>.symm
 obtain rfl:fn=Tryz.f5:=(Option.some.inj (Tryz.func5.symm.trans hfn)).symm
 refine⟨by kernel_rfl,fun j t ht => ?_⟩
 have hp:Tryz.f5.params = #[23,53]:=by kernel_rfl
 rw[hp] at ht
 have:t=23∨t=53:=by simpa using Array.mem_of_getElem? ht
 rcases this with rfl|rfl
 all_goals exact(show Tryz.prog.wantsStandIn _=false by kernel_rfl)
theorem proved:Rows.SturmAddsCardSaid :=
 Claim7.holds_tied_plain_at .later [] _ _ _ _ said (fun _ h=>by cases h) (by kernel_rfl) (fun _ h=>by cases h) sturmAdds_row_tie rfl ⟨rfl,rfl⟩ (by kernel_rfl) rfl plainL (by kernel_rfl)
end RowSturmAdds
end Go.Proofs.YtjadajceekjeoaaGreatDoor.Sym
