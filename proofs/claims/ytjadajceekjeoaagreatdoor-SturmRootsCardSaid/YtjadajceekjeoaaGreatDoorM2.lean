/- The statement SturmRoots is proved, its tables tied: a product of given factors has as many roots as there are different ones, and the isolating intervals contain them; no condition. -/
import Derived.Test.YtjadajceekjeoaaGreatDoorM0
import Derived.Test.YtjadajceekjeoaaGreatDoorM1
import Derived.Test.YtjadajceekjeoaaGreatDoorChecked
import Derived.Shelf.Strings.BuilderX
import Derived.Shelf.Lays
import Derived.KernelRfl
import Derived.Test.YtjadajceekjeoaaGreatDoorYObs
import Derived.Shelf.Strconv.Itoa3
import Derived.Shelf.Strings.OnBuilder
namespace Go.Proofs.YtjadajceekjeoaaGreatDoor.Sym.Path
open Go
set_option maxRecDepth 20000
set_option linter.unusedVariables false
namespace interval_Width
theorem e0(a cle:ARange)(sub:ARat)(h1:Contract prg 95 [a.pv] cle.pv)(h2:Contract prg 28 [cle.hi.pv,cle.lo.pv] sub.pv):Contract prg 39 [a.pv] sub.pv :=
 Contract.ofL Tryz.func39 (by kernel_rfl) (L.done mixed tabOk (n:=78) (ns:=[1,1]) (tr:=[.reg [],.reg [.none,(.pv cle.pv)],.reg [.none,.none,.none,.none,(.pv sub.pv)]]) (cj h1 (cj h2 True.intro)) (by kernel_rfl))
end interval_Width
namespace interval_Contains
theorem e0(a:ARange)(x:ARat)(cle:ARange)(cmp cmp1:Int)(h1:Contract prg 95 [a.pv] cle.pv)(h2:Contract prg 37 [cle.lo.pv,x.pv] (vI cmp))(h3:cmp≤0)(h4:Contract prg 37 [x.pv,cle.hi.pv] (vI cmp1)):Contract prg 42 [a.pv,x.pv] (vB (decide (cmp1≤0))) :=
 Contract.ofL Tryz.func42 (by kernel_rfl) (L.done mixed tabOk (n:=78) (ns:=[1,1,1,1,1,1,1,1,1]) (tr:=[.reg [],.reg [.none,(.pv cle.pv)],.reg [.none,.none,.none,(.pv (vI cmp)),.none,.none,.none,.none,.none,(.pv (vI cmp1)),.none,(.dec true)]]) (cj h1 (cj h2 (cj (dle_t h3) (cj (dle_t h3) (cj (dle_t h3) (cj (dle_t h3) (cj h4 (cj (dle_t h3) (cj (dle_t h3) True.intro))))))))) (by kernel_rfl))
end interval_Contains
namespace interval_Text
theorem e0(a cle:ARange)(tex tex1:ByteArray)(h1:Contract prg 95 [a.pv] cle.pv)(h2:Contract prg 99 [cle.lo.pv] (.str tex))(h3:tex.size+(ByteArray.mk #[46,46]).size<9223372036854775808)(h4:Contract prg 99 [cle.hi.pv] (.str tex1))(h5:(tex++(ByteArray.mk #[46,46])).size+tex1.size<9223372036854775808):Contract prg 45 [a.pv] (.str ((tex++(ByteArray.mk #[46,46]))++tex1)) :=
 Contract.ofL Tryz.func45 (by kernel_rfl) (L.done mixed tabOk (n:=78) (ns:=[1,1,1,1,1]) (tr:=[.reg [],.reg [.none,(.pv cle.pv)],dr 8 1 [.none,.none,(.pv (.str tex)),(.pv (.str (tex++(ByteArray.mk #[46,46])))),.none,.none,(.pv (.str tex1)),(.pv (.str ((tex++(ByteArray.mk #[46,46]))++tex1)))]]) (cj h1 (cj h2 (cj (bs_sadd h3) (cj h4 (cj (bs_sadd h5) True.intro))))) (by kernel_rfl))
end interval_Text
namespace interval_Hull
theorem e0(a b cle cle1:ARange)(minV maxV:ARat)(h1:Contract prg 95 [a.pv] cle.pv)(h2:Contract prg 95 [b.pv] cle1.pv)(h3:Contract prg 26 [cle.lo.pv,cle1.lo.pv] minV.pv)(h4:Contract prg 27 [cle.hi.pv,cle1.hi.pv] maxV.pv):Contract prg 63 [a.pv,b.pv] ((⟨minV,maxV⟩:ARange).pv) :=
 Contract.ofL Tryz.func63 (by kernel_rfl) (L.done mixed tabOk (n:=78) (ns:=[1,1,1,1]) (tr:=[.reg [],dr 4 2 [.none,(.pv cle.pv),.none,(.pv cle1.pv)],dr 11 1 [.none,.none,.none,.none,(.pv minV.pv),.none,.none,.none,.none,(.pv maxV.pv)]]) (cj h1 (cj h2 (cj h3 (cj h4 True.intro)))) (by kernel_rfl))
end interval_Hull
namespace interval_Mid
theorem e0(a cle:ARange)(hal add mul:ARat)(h1:Contract prg 95 [a.pv] cle.pv)(h2:Contract prg 119 [] hal.pv)(h3:Contract prg 29 [cle.lo.pv,cle.hi.pv] add.pv)(h4:Contract prg 62 [hal.pv,add.pv] mul.pv):Contract prg 65 [a.pv] mul.pv :=
 Contract.ofL Tryz.func65 (by kernel_rfl) (L.done mixed tabOk (n:=78) (ns:=[1,1,1,1]) (tr:=[.reg [],.reg [.none,(.pv cle.pv)],dr 7 1 [(.pv hal.pv),.none,.none,.none,.none,(.pv add.pv),(.pv mul.pv)]]) (cj h1 (cj h2 (cj h3 (cj h4 True.intro)))) (by kernel_rfl))
end interval_Mid
namespace interval_Point
theorem e0(x add add1:ARat)(h1:Contract prg 29 [x.pv,(⟨false,[],[]⟩:ARat).pv] add.pv)(h2:Contract prg 29 [x.pv,(⟨false,[],[]⟩:ARat).pv] add1.pv):Contract prg 66 [x.pv] ((⟨add,add1⟩:ARange).pv) :=
 Contract.ofL Tryz.func66 (by kernel_rfl) (L.done mixed tabOk (n:=72) (ns:=[1,1]) (tr:=[.reg [],dr 7 1 [.none,.none,(.pv add.pv),.none,.none,(.pv add1.pv)]]) (cj h1 (cj h2 True.intro)) (by kernel_rfl))
end interval_Point
namespace interval_clean
theorem e0(a:ARange)(val:Bool)(h1:Contract prg 117 [a.pv] (vB val))(h2:val=false):Contract prg 95 [a.pv] ((⟨(⟨false,[],[]⟩:ARat),(⟨false,[],[]⟩:ARat)⟩:ARange).pv) :=
 Contract.ofL Tryz.func95 (by kernel_rfl) (L.done mixed tabOk (n:=84) (ns:=[1,1]) (tr:=[.reg [],.reg [.none,(.pv (vB val))],.dec true,.reg []]) (cj h1 (cj (bnot_t h2) True.intro)) (by kernel_rfl))
theorem e1(a:ARange)(val:Bool)(add add1:ARat)(h1:Contract prg 117 [a.pv] (vB val))(h2:val=true)(h3:Contract prg 29 [a.lo.pv,(⟨false,[],[]⟩:ARat).pv] add.pv)(h4:Contract prg 29 [a.hi.pv,(⟨false,[],[]⟩:ARat).pv] add1.pv):Contract prg 95 [a.pv] ((⟨add,add1⟩:ARange).pv) :=
 Contract.ofL Tryz.func95 (by kernel_rfl) (L.done mixed tabOk (n:=87) (ns:=[1,1,1,1]) (tr:=[.reg [],.reg [.none,(.pv (vB val))],.dec false,dr 9 1 [.none,.none,.none,(.pv add.pv),.none,.none,.none,(.pv add1.pv)]]) (cj h1 (cj (bnot_f h2) (cj h3 (cj h4 True.intro)))) (by kernel_rfl))
end interval_clean
namespace interval_Valid
theorem e0(a:ARange)(val val1:Bool)(cmp:Int)(h1:Contract prg 47 [a.lo.pv] (vB val))(h2:val=true)(h3:Contract prg 47 [a.hi.pv] (vB val1))(h4:val1=true)(h5:Contract prg 37 [a.lo.pv,a.hi.pv] (vI cmp)):Contract prg 117 [a.pv] (vB (decide (cmp≤0))) :=
 Contract.ofL Tryz.func117 (by kernel_rfl) (L.done mixed tabOk (n:=72) (ns:=[1,1,1,1,1,1,1,1,1,1,1,1,1,1]) (tr:=[.reg [],.reg [.none,.none,(.pv (vB val)),.none,.none,.none,(.pv (vB val1)),(.dec true),.none,.none,.none,.none,.none,(.pv (vI cmp)),.none,(.dec true)]]) (cj h1 (cj h2 (cj h2 (cj h2 (cj h3 (cj h2 (cj h4 (cj h4 (cj h4 (cj h4 (cj h4 (cj h5 (cj h4 (cj h4 True.intro)))))))))))))) (by kernel_rfl))
theorem e1(a:ARange)(val val1:Bool)(h1:Contract prg 47 [a.lo.pv] (vB val))(h2:val=true)(h3:Contract prg 47 [a.hi.pv] (vB val1))(h4:val1=false):Contract prg 117 [a.pv] (vB false) :=
 Contract.ofL Tryz.func117 (by kernel_rfl) (L.done mixed tabOk (n:=72) (ns:=[1,1,1,1,1,1,1,1,1,1,1,1,1]) (tr:=[.reg [],.reg [.none,.none,(.pv (vB val)),.none,.none,.none,(.pv (vB val1)),(.dec true),.none,.skip,.skip,.skip,.skip,.skip,.skip,(.dec false)]]) (cj h1 (cj h2 (cj h2 (cj h2 (cj h3 (cj h2 (cj h4 (cj h4 (cj h4 (cj h4 (cj h4 (cj h4 (cj h4 True.intro))))))))))))) (by kernel_rfl))
theorem e2(a:ARange)(val:Bool)(h1:Contract prg 47 [a.lo.pv] (vB val))(h2:val=false):Contract prg 117 [a.pv] (vB false) :=
 Contract.ofL Tryz.func117 (by kernel_rfl) (L.done mixed tabOk (n:=72) (ns:=[1,1,1,1,1,1,1,1,1,1,1]) (tr:=[.reg [],.reg [.none,.none,(.pv (vB val)),.none,.skip,.skip,.skip,(.dec false),.none,.skip,.skip,.skip,.skip,.skip,.skip]]) (cj h1 (cj h2 (cj h2 (cj h2 (cj h2 (cj (Eq.refl false) (cj (Eq.refl false) (cj (Eq.refl false) (cj (Eq.refl false) (cj (Eq.refl false) (cj (Eq.refl false) True.intro))))))))))) (by kernel_rfl))
end interval_Valid
namespace interval_half
theorem e0(mak:ARat)(mak1:Option Int)(h1:Contract prg 36 [(vI 1),(vI 2)] (.tup [mak.pv,(errPV mak1)])):Contract prg 119 [] mak.pv :=
 Contract.ofL Tryz.func119 (by kernel_rfl) (L.done mixed tabOk (n:=78) (ns:=[1]) (tr:=[.reg [],.reg [(.pv (.tup [mak.pv,(errPV mak1)]))],.reg []]) (cj h1 True.intro) (by kernel_rfl))
end interval_half
end Go.Proofs.YtjadajceekjeoaaGreatDoor.Sym.Path


namespace Go.Proofs.YtjadajceekjeoaaGreatDoor.Sym
open Go Path CInt
set_option linter.unusedVariables false
theorem trimL_cons(a:Rat)(r:List Rat):trimL (a::r)=bif (trimL r).isEmpty&&decide (a=0) then [] else a::trimL r:=rfl
theorem trimL_cases(a:Rat)(r:List Rat):(trimL r=[]∧a=0∧trimL (a::r)=[])∨trimL (a::r)=a::trimL r:=by
 rw[trimL_cons]
 cases h:(trimL r).isEmpty&&decide (a=0) with
 |false=>exact Or.inr rfl
 |true =>
  rw[Bool.and_eq_true] at h
  exact Or.inl ⟨List.isEmpty_iff.1 h.1,of_decide_eq_true h.2,rfl⟩
theorem mem_trimL:∀{q:List Rat} {y:Rat},y∈trimL q→y∈q
 |[],y,h=>h
 |a::r,y,h=>by
  rcases trimL_cases a r with ⟨_,_,e⟩|e
  ·rw[e] at h;cases h
  ·rw[e] at h
   rcases List.mem_cons.1 h with h|h
   ·rw[h];exact List.mem_cons_self ..
   ·exact List.mem_cons_of_mem _ (mem_trimL h)
theorem len_trimL:∀q:List Rat,(trimL q).length≤q.length
 |[]=>by simp[trimL]
 |a::r=>by
  rcases trimL_cases a r with ⟨_,_,e⟩|e
  ·rw[e];simp
  ·rw[e];simpa using len_trimL r
theorem lastZ_trimL:∀q:List Rat,lastZ (trimL q)=false
 |[]=>rfl
 |a::r=>by
  have ih:=lastZ_trimL r
  rw[trimL_cons]
  cases h:trimL r with
  |nil =>
   by_cases h0:a=0
   ·rw[decide_eq_true h0];rfl
   ·rw[decide_eq_false h0]
    unfold lastZ
    exact decide_eq_false h0
  |cons b s =>
   rw[h] at ih
   unfold lastZ at ih ⊢
   rw[show (bif (b::s).isEmpty&&decide (a=0) then [] else a::b::s)=a::b::s from rfl]
   rw[List.getLast?_cons_cons]
   exact ih
theorem trimL_of:∀{q:List Rat},lastZ q=false→trimL q=q
 |[],_=>rfl
 |[a],h=>by
  unfold lastZ at h
  have h:¬a=0:=of_decide_eq_false h
  rw[trimL_cons,decide_eq_false h];rfl
 |a::b::s,h=>by
  unfold lastZ at h
  rw[List.getLast?_cons_cons] at h
  have:=trimL_of (q:=b::s) h
  rw[trimL_cons,this];rfl
theorem chk_map{q:List Rat}(h:lastZ q=false)(hl:q.length≤65):chk (q.map mkR)=0:=by
 unfold chk
 rw[if_neg (by rw[List.length_map];omega),vals_mkR,h]
 rw[show (q.map mkR).all ARat.valid=true from by
  rw[List.all_eq_true]
  intro a ha
  obtain⟨x,_,rfl⟩:=List.mem_map.1 ha
  exact mkR_valid x]
 rfl
theorem evalL_trimL(x:Rat):∀q:List Rat,evalL (trimL q) x=evalL q x
 |[]=>rfl
 |a::r=>by
  have ih:=evalL_trimL x r
  rcases trimL_cases a r with ⟨h1,h2,e⟩|e
  ·rw[e,evalL,evalL,←ih,h1,h2,evalL];grind
  ·rw[e,evalL,evalL,ih]
theorem trimL_drop(q:List Rat):(trimL q).drop 1=trimL (q.drop 1):=by
 cases q with
 |nil=>rfl
 |cons a r =>
  rcases trimL_cases a r with ⟨h1,h2,e⟩|e
  ·rw[e];exact h1.symm
  ·rw[e];rfl
theorem trimL_derI:∀(q:List Rat) (i:Nat),trimL (derI i (trimL q))=trimL (derI i q)
 |[],_=>rfl
 |a::r,i=>by
  have ih:=trimL_derI r (i+1)
  rcases trimL_cases a r with ⟨h1,h2,e⟩|e
  ·rw[e,derI,derI,trimL_cons,←ih,h1,h2]
   rw[show ((i:Int):Rat)*0=0 from by grind];rfl
  ·rw[e,derI,derI,trimL_cons,trimL_cons,ih]
theorem deriveL_trimL(q:List Rat):deriveL (trimL q)=deriveL q:=by
 unfold deriveL
 rw[trimL_drop,trimL_derI]
theorem evalL_deriveL(q:List Rat)(x:Rat):evalL (deriveL q) x=evalL (derI 1 (q.drop 1)) x:=by
 unfold deriveL
 rw[evalL_trimL]
theorem lastZ_deriveL(q:List Rat):lastZ (deriveL q)=false:=lastZ_trimL _
end Go.Proofs.YtjadajceekjeoaaGreatDoor.Sym
namespace Go.Proofs.YtjadajceekjeoaaGreatDoor.Sym
open Go Path CInt
set_option linter.unusedVariables false
def coef(p:List Rat)(i:Nat):Rat:=p[i]?.getD 0
def addL:List Rat→List Rat→List Rat
 |[],q=>q
 |a::p,[]=>a::p
 |a::p,b::q=>(a+b)::addL p q
def smulL(c:Rat)(q:List Rat):List Rat:=q.map (fun x=>c*x)
def mulL:List Rat→List Rat→List Rat
 |[],_=>[]
 |a::p,q=>addL (smulL a q) (0::mulL p q)
def shiftL(s:Nat)(q:List Rat):List Rat:=List.replicate s 0++q
theorem coef_nil(i:Nat):coef [] i=0:=rfl
theorem coef_zero(a:Rat)(p:List Rat):coef (a::p) 0=a:=rfl
theorem coef_succ(a:Rat)(p:List Rat)(i:Nat):coef (a::p) (i+1)=coef p i:=rfl
theorem coef_of{p:List Rat}{i:Nat}{v:Rat}(h:p[i]? = some v):coef p i=v:=by unfold coef;rw[h];rfl
theorem coef_ge{p:List Rat}{i:Nat}(h:p.length≤i):coef p i=0:=by unfold coef;rw[List.getElem?_eq_none h];rfl
theorem coef_get{p:List Rat}{i:Nat}(h:i<p.length):p[i]? = some (coef p i):=by unfold coef;rw[List.getElem?_eq_getElem h];rfl
theorem coef_addL:∀(p q:List Rat) (i:Nat),coef (addL p q) i=coef p i+coef q i
 |[],q,i=>by rw[addL,coef_nil,Rat.zero_add]
 |a::p,[],i=>by rw[addL,coef_nil,Rat.add_zero]
 |a::p,b::q,0=>rfl
 |a::p,b::q,i+1=>by rw[addL,coef_succ,coef_succ,coef_succ,coef_addL p q i]
theorem coef_smulL(c:Rat)(q:List Rat)(i:Nat):coef (smulL c q) i=c*coef q i:=by
 unfold coef smulL
 rw[List.getElem?_map]
 cases q[i]? with
 |none=>show(0:Rat)=c*0;rw[Rat.mul_zero]
 |some v=>rfl
theorem coef_mul_cons(a:Rat)(p q:List Rat)(i:Nat):coef (mulL (a::p) q) i=a*coef q i+coef (0::mulL p q) i:=by rw[mulL,coef_addL,coef_smulL]
theorem coef_shiftL(s:Nat)(q:List Rat)(i:Nat):coef (shiftL s q) i=if i<s then 0 else coef q (i-s):=by
 unfold coef shiftL
 split
 ·rename_i h
  rw[List.getElem?_append_left (by rw[List.length_replicate];exact h),List.getElem?_replicate,if_pos h];rfl
 ·rename_i h
  rw[List.getElem?_append_right (by rw[List.length_replicate];omega),List.length_replicate]
theorem len_addL:∀(p q:List Rat),(addL p q).length=max p.length q.length
 |[],q=>by rw[addL,List.length_nil,Nat.zero_max]
 |a::p,[]=>by rw[addL,List.length_nil,Nat.max_zero]
 |a::p,b::q=>by rw[addL,List.length_cons,List.length_cons,List.length_cons,len_addL p q];omega
theorem len_smulL(c:Rat)(q:List Rat):(smulL c q).length=q.length:=List.length_map ..
theorem trimL_ext:∀{p q:List Rat},(∀i,coef p i=coef q i)→trimL p=trimL q
 |[],[],_=>rfl
 |[],b::q,h=>by
  have h0:(0:Rat)=b:=h 0
  have:=trimL_ext (p:=[]) (q:=q) (fun i=>h (i+1))
  rw[trimL_cons,←this,←h0];rfl
 |a::p,[],h=>by
  have h0:a=(0:Rat):=h 0
  have:=trimL_ext (p:=p) (q:=[]) (fun i=>h (i+1))
  rw[trimL_cons,this,h0];rfl
 |a::p,b::q,h=>by
  have h0:a=b:=h 0
  rw[trimL_cons,trimL_cons,trimL_ext (p:=p) (q:=q) (fun i=>h (i+1)),h0]
theorem coef_trimL:∀(p:List Rat) (i:Nat),coef (trimL p) i=coef p i
 |[],_=>rfl
 |a::r,i=>by
  rcases trimL_cases a r with ⟨h1,h2,e⟩|e
  ·rw[e]
   cases i with
   |zero=>exact h2.symm
   |succ i=>rw[coef_succ,←coef_trimL r i,h1,coef_nil,coef_nil]
  ·rw[e]
   cases i with
   |zero=>rfl
   |succ i=>rw[coef_succ,coef_succ,coef_trimL r i]
theorem coef_inj{p q:List Rat}(hp:lastZ p=false)(hq:lastZ q=false)(h:∀i,coef p i=coef q i):p=q:=by
 rw[←trimL_of hp,←trimL_of hq];exact trimL_ext h
theorem evalL_addL(x:Rat):∀(p q:List Rat),evalL (addL p q) x=evalL p x+evalL q x
 |[],q=>by rw[addL,evalL,Rat.zero_add]
 |a::p,[]=>by rw[addL,show evalL [] x=0 from rfl,Rat.add_zero]
 |a::p,b::q=>by rw[addL,evalL,evalL,evalL,evalL_addL x p q];grind
theorem evalL_smulL(c x:Rat):∀(q:List Rat),evalL (smulL c q) x=c*evalL q x
 |[]=>by show(0:Rat)=c*0;rw[Rat.mul_zero]
 |a::q=>by
  have:=evalL_smulL c x q
  show evalL (smulL c q) x*x+c*a=c*(evalL q x*x+a)
  rw[this];grind
theorem evalL_mulL(x:Rat):∀(p q:List Rat),evalL (mulL p q) x=evalL p x*evalL q x
 |[],q=>by show(0:Rat)=0*_;rw[Rat.zero_mul]
 |a::p,q=>by
  rw[mulL,evalL_addL,evalL_smulL,evalL,evalL_mulL x p q,evalL];grind
theorem evalL_shiftL(x:Rat):∀(s:Nat) (q:List Rat),evalL (shiftL s q) x=x^s*evalL q x
 |0,q=>by show evalL q x=_;rw[Rat.pow_zero,Rat.one_mul]
 |s+1,q=>by
  have:=evalL_shiftL x s q
  show evalL (shiftL s q) x*x+0=_
  rw[this,Rat.pow_succ];grind
def quoL(c:Rat):List Rat→List Rat
 |[]=>[]
 |[_]=>[]
 |_::b::r=>evalL (b::r) c::quoL c (b::r)
theorem quoL_len(c:Rat):∀p:List Rat,(quoL c p).length=p.length-1
 |[]=>rfl
 |[_]=>rfl
 |_::b::r=>by rw[quoL,List.length_cons,quoL_len c (b::r)];simp
theorem quoL_eval(c x:Rat):∀p:List Rat,evalL p x=evalL p c+(x-c)*evalL (quoL c p) x
 |[]=>by show(0:Rat)=0+(x-c)*0;grind
 |[a]=>by show 0*x+a=(0*c+a)+(x-c)*0;grind
 |a::b::r=>by
  have:=quoL_eval c x (b::r)
  rw[quoL]
  show evalL (b::r) x*x+a=(evalL (b::r) c*c+a)+(x-c)*(evalL (quoL c (b::r)) x*x+evalL (b::r) c)
  rw[this]
  grind
theorem quoL_zero(c:Rat):∀p:List Rat,evalL p c=0→(∀y∈quoL c p,y=0)→∀y∈p,y=0
 |[],_,_=>fun y h=>by cases h
 |[a],h,_=>fun y hy=>by
  have h:0*c+a=0:=h
  rw[List.mem_singleton.1 hy];grind
 |a::b::r,h,hq=>fun y hy=>by
  rw[quoL] at hq
  have h1:=hq _ (List.mem_cons_self ..)
  have ih:=quoL_zero c (b::r) h1 (fun z hz=>hq z (List.mem_cons_of_mem _ hz))
  rcases List.mem_cons.1 hy with e|hy
  ·rw[evalL,h1] at h
   rw[e];grind
  ·exact ih y hy
theorem eval_zero:∀(n:Nat) (p:List Rat) (N:Nat),p.length≤n→(∀m:Nat,N≤m→evalL p ((m:Int):Rat)=0)→∀y∈p,y=0
 |0,p,N,hl,_=>fun y hy=>by
  have:p=[]:=List.eq_nil_of_length_eq_zero (by omega)
  rw[this] at hy;cases hy
 |n+1,p,N,hl,h=>by
  have h0:=h N (Nat.le_refl _)
  refine quoL_zero _ p h0 (eval_zero n _ (N+1) (by rw[quoL_len];omega) (fun m hm => ?_))
  have h1:=h m (by omega)
  rw[quoL_eval ((N:Int):Rat) _ p,h0,Rat.zero_add] at h1
  rcases Rat.mul_eq_zero.1 h1 with e|e
  ·have:((m:Int):Rat)=((N:Int):Rat):=by grind
   have:=Rat.intCast_inj.1 this
   omega
  ·exact e
theorem coef_all{p:List Rat}(h:∀y∈p,y=0)(i:Nat):coef p i=0:=by
 unfold coef
 cases hv:p[i]? with
 |none=>rfl
 |some v=>exact h v (List.mem_of_getElem? hv)
theorem eval_coef{p q:List Rat}(h:∀x,evalL p x=evalL q x)(i:Nat):coef p i=coef q i:=by
 have hz:=eval_zero _ (addL p (smulL (-1) q)) 0 (Nat.le_refl _) (fun m _=>by rw[evalL_addL,evalL_smulL,h];grind)
 have:=coef_all hz i
 rw[coef_addL,coef_smulL] at this
 grind
theorem eval_ext{p q:List Rat}(h:∀x,evalL p x=evalL q x):trimL p=trimL q:=trimL_ext (eval_coef h)
theorem coef_mul_comm(p q:List Rat)(i:Nat):coef (mulL p q) i=coef (mulL q p) i:=eval_coef (fun x=>by rw[evalL_mulL,evalL_mulL,Rat.mul_comm]) i
theorem coef_mul_snoc{p:List Rat}{t:Nat}{v:Rat}(h:p[t]? = some v)(q:List Rat)(i:Nat):coef (mulL (p.take (t+1)) q) i=coef (mulL (p.take t) q) i+coef (shiftL t (smulL v q)) i:=by
 have hl:=(List.getElem?_eq_some_iff.1 h).1
 have key:∀x,evalL (mulL (p.take (t+1)) q) x=evalL (addL (mulL (p.take t) q) (shiftL t (smulL v q))) x:=by
  intro x
  rw[evalL_addL,evalL_mulL,evalL_mulL,evalL_shiftL,evalL_smulL,List.take_add_one,h]
  have:∀(l:List Rat),evalL (l++[v]) x=evalL l x+x^l.length*v:=by
   intro l
   induction l with
   |nil=>show 0*x+v=0+x^0*v;rw[Rat.pow_zero];grind
   |cons a l ih =>
    rw[List.cons_append,evalL,evalL,ih,List.length_cons,Rat.pow_succ];grind
  show evalL (p.take t++[v]) x*_=_
  rw[this,List.length_take,Nat.min_eq_left (by omega)]
  grind
 rw[←coef_addL]
 exact eval_coef key i
theorem ht_mul_coef{k m:Nat} : ∀(p q:List Rat) (i:Nat),(∀i,ht (coef p i)≤k)→(∀i,ht (coef q i)≤m)→ht (coef (mulL p q) i)≤p.length*(k+m+1)+1
 |[],q,i,_,_=>Nat.le_trans (Nat.le_of_eq ht_zero) (by omega)
 |a::p,q,i,hp,hq=>by
  have ih:=fun i=>ht_mul_coef (k:=k) (m:=m) p q i
  have h1:=ht_mul a (coef q i)
  have h2:=hp 0
  rw[coef_zero] at h2
  have h3:=hq i
  rw[coef_mul_cons,List.length_cons,Nat.add_mul]
  have h4:=ht_add (a*coef q i) (coef (0::mulL p q) i)
  have h5:ht (coef (0::mulL p q) i)≤p.length*(k+m+1)+1:=by
   cases i with
   |zero=>rw[coef_zero,ht_zero];omega
   |succ i=>rw[coef_succ];exact ih i (fun j=>hp (j+1)) hq
  omega
theorem fl_coef{k:Nat}{p:List Rat}(h:Fl k p)(hk:1≤k)(i:Nat):ht (coef p i)≤k:=by
 unfold coef
 cases hv:p[i]? with
 |none=>exact Nat.le_trans (Nat.le_of_eq ht_zero) hk
 |some v=>exact h v (List.mem_of_getElem? hv)
theorem fl_of_coef{k:Nat}{p:List Rat}(h:∀i,ht (coef p i)≤k):Fl k p:=by
 intro x hx
 obtain⟨i,hi⟩:=List.mem_iff_getElem?.1 hx
 have:=h i
 rwa[coef_of hi] at this
theorem fl_mono{k m:Nat}{q:List Rat}(h:Fl k q)(hk:k≤m):Fl m q:=fun x hx=>Nat.le_trans (h x hx) hk
def tabL(m:Nat)(g:Nat→Rat):List Rat:=(List.range m).map g
theorem tabL_len(m:Nat)(g:Nat→Rat):(tabL m g).length=m:=by unfold tabL;rw[List.length_map,List.length_range]
theorem tabL_get{m i:Nat}(g:Nat→Rat)(h:i<m):(tabL m g)[i]? = some (g i):=by
 unfold tabL;rw[List.getElem?_map,List.getElem?_range h];rfl
theorem tabL_set{m i:Nat}(g:Nat→Rat)(v:Rat)(h:i<m):(tabL m g).set i v=tabL m (fun j=>if j=i then v else g j):=by
 refine List.ext_getElem? fun j => ?_
 by_cases hj:j<m
 ·rw[tabL_get _ hj]
  by_cases e:j=i
  ·subst e
   rw[List.getElem?_set_self (by rw[tabL_len];exact h),if_pos rfl]
  ·rw[List.getElem?_set_ne (by omega),tabL_get _ hj,if_neg e]
 ·rw[List.getElem?_eq_none (by rw[List.length_set,tabL_len];omega),List.getElem?_eq_none (by rw[tabL_len];omega)]
theorem tabL_zero(m:Nat):List.replicate m (⟨false,[],[]⟩:ARat)=(tabL m (fun _=>0)).map mkR:=by
 refine List.ext_getElem? fun j => ?_
 rw[List.getElem?_map]
 by_cases hj:j<m
 ·rw[tabL_get _ hj,List.getElem?_replicate,if_pos hj];rfl
 ·rw[List.getElem?_eq_none (by rw[List.length_replicate];omega),List.getElem?_eq_none (by rw[tabL_len];omega)];rfl
theorem tabL_coef{m:Nat}{g:Nat→Rat}(h:∀i,m≤i→g i=0)(i:Nat):coef (tabL m g) i=g i:=by
 by_cases hi:i<m
 ·exact coef_of (tabL_get g hi)
 ·rw[coef_ge (by rw[tabL_len];omega),h i (by omega)]
theorem tabL_congr{m:Nat}{f g:Nat→Rat}(h:∀i,i<m→f i=g i):tabL m f=tabL m g:=by
 unfold tabL
 exact List.map_congr_left (fun i hi=>h i (List.mem_range.1 hi))
end Go.Proofs.YtjadajceekjeoaaGreatDoor.Sym
namespace Go.Proofs.YtjadajceekjeoaaGreatDoor.Sym
open Go Path CInt
set_option linter.unusedVariables false
abbrev pq(q:List Rat):PV:=polyPV (q.map mkR)
theorem getM{q:List Rat}{n:Nat}{v:Rat}(h:q[n]? = some v):(q.map mkR)[n]? = some (mkR v):=by rw[List.getElem?_map,h];rfl
theorem lenM(q:List Rat):(q.map mkR).length=q.length:=List.length_map ..
theorem fitQ{k:Nat}{q:List Rat}(h:Fl k q)(hk:k≤68719476736):FitP 274877906944 (q.map mkR):=fit_map (fl_mono h (by omega))
def chk2(p q:List ARat):Int:=if chk p=0 then chk q else chk p
theorem tab_step{m t:Nat}{f g:Nat→Rat}{v:Rat}(ht:t<m)(hv:f t=v)(ho:∀i,i≠t→f i=g i):((tabL m g).map mkR).set t (mkR v)=(tabL m f).map mkR:=by
 rw[←List.map_set,tabL_set g v ht]
 congr 1
 refine tabL_congr (fun i _ => ?_)
 split
 ·rename_i e;rw[e,hv]
 ·rename_i e;exact(ho i e).symm
theorem ht_mul_take{a b n:Nat}{p q:List Rat}(hp:Fl a p)(hq:Fl b q)(ha:1≤a)(hb:1≤b)(hn:p.length≤n∨q.length≤n)(t i:Nat):ht (coef (mulL (p.take t) q) i)≤n*(a+b+1)+1:=by
 have hpt:∀i,ht (coef (p.take t) i)≤a:=fl_coef (fun x hx=>hp x (List.mem_of_mem_take hx)) ha
 rcases hn with h|h
 ·have h1:=ht_mul_coef (p.take t) q i hpt (fl_coef hq hb)
  have h2:(p.take t).length*(a+b+1)≤n*(a+b+1):=Nat.mul_le_mul_right _ (by rw[List.length_take];omega)
  omega
 ·rw[coef_mul_comm]
  have h1:=ht_mul_coef q (p.take t) i (fl_coef hq hb) hpt
  have h2:q.length*(b+a+1)≤n*(b+a+1):=Nat.mul_le_mul_right _ h
  rw[Nat.add_comm b a] at h1 h2
  omega
namespace CPl
theorem Trim{k:Nat}(q:List Rat)(hl:q.length≤1000000)(hf:Fl k q)(hk:k≤68719476736):Contract prg 141 [pq q] (pq (trimL q)):=by
 have:=CPo.Trim (q.map mkR) (by rw[lenM];omega) (fitQ hf hk)
 rwa[vals_mkR] at this
theorem coefficient(p:List Rat)(t:Nat):Contract prg 163 [pq p,vI (t:Int)] (mkR (coef p t)).pv:=by
 by_cases h:t<p.length
 ·exact poly_coefficient.e0 _ _ t _ (by rw[lenM];omega) rfl (getM (coef_get h))
 ·rw[coef_ge (by omega)]
  exact poly_coefficient.e1 _ _ (by rw[lenM];omega)
theorem plus{a b d:Nat}(p q:List Rat)(c:Rat)(hlp:p.length≤100000)(hlq:q.length≤100000)(hp:Fl a p)(hq:Fl b q)(hc:ht c≤d)(ha:1≤a)(hb:1≤b)(hk:a+b+d+1≤68719476736):Contract prg 142 [pq p,pq q,(mkR c).pv] (pq (trimL (addL p (smulL c q)))):=by
 have hcoef:∀i,ht (coef p i)≤a∧ht (coef q i)≤b:=fun i=>⟨fl_coef hp ha i,fl_coef hq hb i⟩
 have hmax:max (p.map mkR).length (q.map mkR).length=max p.length q.length:=by rw[lenM,lenM]
 have loop:∀(j t:Nat),max p.length q.length-t=j→poly_plus.Loop1 (p.map mkR) (q.map mkR) t (mkR c) ((tabL (max p.length q.length) (fun i=>if i<t then coef p i+c*coef q i else 0)).map mkR) (pq (trimL (addL p (smulL c q)))):=by
  intro j
  induction j with
  |zero =>
   intro t hj
   have e:trimL (addL p (smulL c q))=trimL (tabL (max p.length q.length) (fun i=>if i<t then coef p i+c*coef q i else 0)):=by
    refine trimL_ext (fun i => ?_)
    rw[coef_addL,coef_smulL]
    by_cases hi:i<max p.length q.length
    ·rw[coef_of (tabL_get _ hi),if_pos (by omega)]
    ·rw[coef_ge (p:=tabL _ _) (by rw[tabL_len];omega),coef_ge (p:=p) (by omega),coef_ge (p:=q) (by omega)];grind
   rw[e]
   refine poly_plus.l11 _ _ t _ _ _ (by omega) (by rw[hmax,lenM,tabL_len]) (Trim (k:=a+b+d+1) _ (by rw[tabL_len];omega) (fl_of_coef (fun i => ?_)) hk)
   obtain⟨c1,c2⟩:=hcoef i
   have h1:=ht_mul c (coef q i)
   have h2:=ht_add (coef p i) (c*coef q i)
   have h0:=ht_zero
   by_cases hi:i<max p.length q.length
   ·rw[coef_of (tabL_get _ hi),if_pos (by omega)];omega
   ·rw[coef_ge (p:=tabL _ _) (by rw[tabL_len];omega),h0];omega
  |succ j ih =>
   intro t hj
   obtain⟨c1,c2⟩:=hcoef t
   have h1:=ht_mul c (coef q t)
   refine poly_plus.l10 _ _ t _ _ _ _ _ _ (by omega) (coefficient p t) (coefficient q t) (QF.Mul c (coef q t) (by omega) (by omega)) (QF.Add (coef p t) (c*coef q t) (by omega) (by omega)) (by rw[lenM,tabL_len];omega) (by omega) ?_
   rw[tab_step (f:=fun i=>if i<t+1 then coef p i+c*coef q i else 0) (by omega) (if_pos (by omega)) (fun i hi=>by
    by_cases h:i<t
    ·rw[if_pos h,if_pos (by omega)]
    ·rw[if_neg h,if_neg (by omega)])]
   exact ih (t+1) (by omega)
 have:=loop _ 0 rfl
 refine poly_plus.e0 _ _ _ (by omega) ?_
 rw[hmax,tabL_zero]
 exact this
theorem times{a b:Nat}(n:Nat)(p q:List Rat)(hlp:p.length≤100000)(hlq:q.length≤100000)(hp:Fl a p)(hq:Fl b q)(ha:1≤a)(hb:1≤b)(hn:p.length≤n∨q.length≤n)(hk:(n+1)*(a+b+1)+1≤68719476736):Contract prg 97 [pq p,pq q] (pq (trimL (mulL p q))):=by
 rw[Nat.add_mul] at hk
 by_cases h0:p.length=0
 ·rw[List.eq_nil_of_length_eq_zero h0]
  exact poly_times.e0 _ _ rfl
 by_cases h1:q.length=0
 ·have e:trimL (mulL p q)=trimL []:=eval_ext (fun x=>by rw[evalL_mulL,List.eq_nil_of_length_eq_zero h1];show _*(0:Rat)=0;rw[Rat.mul_zero])
  rw[e]
  exact poly_times.e1 _ _ (by rw[lenM];exact h0) (by rw[lenM];exact h1)
 have hm:∀i,p.length+q.length-1≤i→∀t,coef (mulL (p.take t) q) i=0:=by
  intro i hi t
  have key:∀(p:List Rat) (i:Nat),p.length+q.length-1≤i→coef (mulL p q) i=0:=by
   intro p
   induction p with
   |nil=>intro i _;rfl
   |cons c p ih =>
    intro i hi
    rw[List.length_cons] at hi
    rw[coef_mul_cons,coef_ge (p:=q) (by omega)]
    cases i with
    |zero=>rw[coef_zero];grind
    |succ i =>
     rw[coef_succ]
     cases p with
     |nil=>rw[mulL,coef_nil];grind
     |cons d p=>rw[ih i (by omega)];grind
  exact key _ i (by rw[List.length_take];omega)
 have bG:=ht_mul_take hp hq ha hb hn
 have outer:∀(j t:Nat),p.length-t=j→t≤p.length→poly_times.Loop1 (q.map mkR) (p.length+q.length-1) (p.map mkR) t ((tabL (p.length+q.length-1) (coef (mulL (p.take t) q))).map mkR) (pq (trimL (mulL p q))):=by
  intro j
  induction j with
  |zero =>
   intro t hj ht
   have e:trimL (mulL p q)=trimL (tabL (p.length+q.length-1) (coef (mulL (p.take t) q))):=by
    refine trimL_ext (fun i => ?_)
    rw[tabL_coef (fun i hi=>hm i hi t),List.take_of_length_le (by omega)]
   rw[e]
   refine poly_times.l11 _ _ _ t _ _ (by rw[lenM];omega) (by rw[lenM,tabL_len]) (Trim (k:=n*(a+b+1)+1) _ (by rw[tabL_len];omega) (fl_of_coef (fun i => ?_)) (by omega))
   rw[tabL_coef (fun i hi=>hm i hi t)]
   exact bG t i
  |succ j ih =>
   intro t hj ht
   obtain⟨v,hv⟩:∃v,p[t]? = some v:=⟨_,List.getElem?_eq_getElem (by omega)⟩
   have hvh:=hp v (List.mem_of_getElem? hv)
   refine poly_times.l10 _ _ _ t _ (mkR v) (by rw[lenM];omega) (getM hv) ?_
   have inner:∀(k u:Nat),q.length-u=k→u≤q.length→poly_times.Loop2 (q.map mkR) (p.length+q.length-1) t (p.map mkR) t u (mkR v) ((tabL (p.length+q.length-1) (fun i=>coef (mulL (p.take t) q) i+if t≤i∧i<t+u then v*coef q (i-t) else 0)).map mkR) (pq (trimL (mulL p q))):=by
    intro k
    induction k with
    |zero =>
     intro u hk2 hu
     refine poly_times.l21 _ _ t _ t u _ _ (by rw[lenM];omega) (by omega) ?_
     have:=ih (t+1) (by omega) (by omega)
     rwa[tabL_congr (f:=coef (mulL (p.take (t+1)) q)) (g:=fun i=>coef (mulL (p.take t) q) i+if t≤i∧i<t+u then v*coef q (i-t) else 0) (fun i hi=>by
      rw[coef_mul_snoc hv,coef_shiftL,coef_smulL]
      congr 1
      by_cases h1:i<t
      ·rw[if_pos h1,if_neg (by omega)]
      ·rw[if_neg h1]
       by_cases h2:i<t+u
       ·rw[if_pos (by omega)]
       ·rw[if_neg (by omega),coef_ge (p:=q) (by omega),Rat.mul_zero])] at this
    |succ k ih2 =>
     intro u hk2 hu
     obtain⟨w,hw⟩:∃w,q[u]? = some w:=⟨_,List.getElem?_eq_getElem (by omega)⟩
     have hwh:=hq w (List.mem_of_getElem? hw)
     have hg:t+u<p.length+q.length-1:=by omega
     have b1:=bG t (t+u)
     have b2:=ht_mul v w
     refine poly_times.l20 _ _ t _ t u _ _ (mkR w) (mkR (coef (mulL (p.take t) q) (t+u))) _ _ (by rw[lenM];omega) (getM hw) (by omega) hg ?_ (QF.Mul v w (by omega) (by omega)) (QF.Add (coef (mulL (p.take t) q) (t+u)) (v*w) (by omega) (by omega)) (by rw[lenM,tabL_len];omega) (by omega) ?_
     ·rw[getM (tabL_get _ hg),if_neg (by omega),Rat.add_zero]
     ·rw[tab_step (f:=fun i=>coef (mulL (p.take t) q) i+if t≤i∧i<t+(u+1) then v*coef q (i-t) else 0) hg (by
       rw[if_pos (by omega),show t+u-t=u from by omega,coef_of hw]) (fun i hi=>by
       congr 1
       by_cases h:t≤i∧i<t+u
       ·rw[if_pos h,if_pos (by omega)]
       ·rw[if_neg h,if_neg (by omega)])]
      exact ih2 (u+1) (by omega) (by omega)
   have:=inner _ 0 rfl (by omega)
   rwa[tabL_congr (g:=coef (mulL (p.take t) q)) (fun i hi=>by rw[if_neg (by omega),Rat.add_zero])] at this
 have:=outer _ 0 rfl (by omega)
 refine poly_times.e2 _ _ (p.length+q.length-1) (by rw[lenM];exact h0) (by rw[lenM];exact h1) (by rw[lenM,lenM];omega) (by rw[lenM,lenM];unfold InI64;omega) (by rw[lenM,lenM];omega) (by omega) ?_
 rw[tabL_zero]
 exact this
theorem checks2(p q:List ARat)(hp:FitP 274877906944 p)(hq:FitP 274877906944 q):Contract prg 96 [lpv (lcell ARat.cells) [p,q]] (errPV (errOf (chk2 p q))):=by
 have h1:=CPo.Check p hp
 have h2:=CPo.Check q hq
 refine poly_checks.e0 [p,q] ?_
 unfold chk2
 by_cases e:chk p=0
 ·rw[if_pos e]
  rw[e] at h1
  refine poly_checks.l10 _ 0 p (by simp) rfl h1 (by omega) ?_
  by_cases e2:chk q=0
  ·rw[e2] at h2 ⊢
   exact poly_checks.l10 _ 1 q (by simp) rfl h2 (by omega) (poly_checks.l12 _ 2 (by simp))
  ·rw[errOf_ne e2] at h2 ⊢
   exact poly_checks.l11 _ 1 q _ (by simp) rfl h2
 ·rw[if_neg e]
  rw[errOf_ne e] at h1 ⊢
  exact poly_checks.l11 _ 0 p _ (by simp) rfl h1
end CPl
end Go.Proofs.YtjadajceekjeoaaGreatDoor.Sym

namespace Go.Proofs.YtjadajceekjeoaaGreatDoor.Sym
open Go Path CInt
set_option linter.unusedVariables false
def topL(p:List Rat):Rat:=coef p (p.length-1)
theorem top_ne{p:List Rat}(hz:lastZ p=false)(h:p≠[]):topL p≠0:=by
 unfold lastZ at hz
 have hl:=List.length_pos_iff.2 h
 rw[List.getLast?_eq_getElem?,coef_get (p:=p) (i:=p.length-1) (by omega)] at hz
 exact of_decide_eq_false hz
theorem len_trim_le{p:List Rat}{n:Nat}(h:∀i,n≤i→coef p i=0):(trimL p).length≤n:=by
 refine Nat.le_of_not_lt fun hlt => ?_
 have hne:trimL p≠[]:=by intro e;rw[e] at hlt;simp at hlt
 have:=top_ne (lastZ_trimL p) hne
 unfold topL at this
 rw[coef_trimL,h _ (by omega)] at this
 exact this rfl
def stepC(rest q:List Rat):Rat:=topL rest/topL q
def stepR(rest q:List Rat):List Rat:=trimL (addL rest (shiftL (rest.length-q.length) (smulL (-(stepC rest q)) q)))
def divF:Nat→List Rat→List Rat→List Rat→List Rat×List Rat
 |0,out,rest,_=>(out,rest)
 |n+1,out,rest,q=>bif Nat.blt rest.length q.length then (out,rest) else divF n (trimL (addL out (shiftL (rest.length-q.length) [stepC rest q]))) (stepR rest q) q
def divL(p q:List Rat):List Rat×List Rat:=divF (p.length+1) [] (trimL p) q
def restL(p q:List Rat):List Rat:=(divL p q).2
def monicL(p:List Rat):List Rat:=trimL (smulL (1/topL p) p)
def gcdF:Nat→List Rat→List Rat→List Rat
 |0,p,_=>p
 |n+1,p,q=>bif Nat.beq q.length 0 then p else gcdF n q (monicL (restL p q))
def gcdL(p q:List Rat):List Rat:=monicL (gcdF (q.length+1) p q)
def freeL(p:List Rat):List Rat:=monicL (divL p (gcdL p (deriveL p))).1
theorem blt_iff{a b:Nat} : Nat.blt a b=true↔a<b:=by rw[Nat.blt_eq]
theorem blt_fal{a b:Nat} : Nat.blt a b=false↔b≤a:=by
 constructor
 ·intro h;exact Nat.le_of_not_lt fun e=>by rw[blt_iff.2 e] at h;cases h
 ·intro h
  cases hb:Nat.blt a b with
  |true=>have:=blt_iff.1 hb;omega
  |false=>rfl
theorem stepC_mul{rest q:List Rat}(hq:topL q≠0):stepC rest q*topL q=topL rest:=by
 unfold stepC
 rw[Rat.div_mul_cancel hq]
theorem stepR_len{rest q:List Rat}(hq:topL q≠0)(hq0:q.length≠0)(hl:q.length≤rest.length):(stepR rest q).length<rest.length:=by
 have h:=len_trim_le (p:=addL rest (shiftL (rest.length-q.length) (smulL (-(stepC rest q)) q))) (n:=rest.length-1) (fun i hi=>by
  rw[coef_addL,coef_shiftL,coef_smulL,if_neg (by omega)]
  by_cases e:i=rest.length-1
  ·have h1:=stepC_mul (rest:=rest) hq
   unfold topL at h1
   rw[e,show rest.length-1-(rest.length-q.length)=q.length-1 from by omega]
   grind
  ·rw[coef_ge (p:=rest) (by omega),coef_ge (p:=q) (by omega)];grind)
 unfold stepR
 omega
theorem stepR_eval(rest q:List Rat)(x:Rat):evalL (stepR rest q) x=evalL rest x-x^(rest.length-q.length)*stepC rest q*evalL q x:=by
 unfold stepR
 rw[evalL_trimL,evalL_addL,evalL_shiftL,evalL_smulL];grind
theorem divF_spec{q:List Rat}(hq:topL q≠0)(hq0:q.length≠0):∀(n:Nat) (out rest:List Rat),rest.length<n →
  (divF n out rest q).2.length<q.length∧∀x,evalL (divF n out rest q).1 x*evalL q x+evalL (divF n out rest q).2 x=evalL out x*evalL q x+evalL rest x
 |0,out,rest,h=>by omega
 |n+1,out,rest,h=>by
  rw[divF]
  cases hb:Nat.blt rest.length q.length with
  |true=>exact⟨blt_iff.1 hb,fun x=>rfl⟩
  |false =>
   have hl:=blt_fal.1 hb
   have h1:=stepR_len hq hq0 hl
   rw[cond_false]
   obtain⟨g1,g2⟩:=divF_spec hq hq0 n (trimL (addL out (shiftL (rest.length-q.length) [stepC rest q]))) (stepR rest q) (by omega)
   refine⟨g1,fun x => ?_⟩
   rw[g2 x,stepR_eval,evalL_trimL,evalL_addL,evalL_shiftL]
   have:evalL [stepC rest q] x=stepC rest q:=by show 0*x+stepC rest q=stepC rest q;grind
   rw[this];grind
theorem divF_trim{q:List Rat} : ∀(n:Nat) (out rest:List Rat),lastZ out=false→lastZ rest=false→lastZ (divF n out rest q).1=false∧lastZ (divF n out rest q).2=false
 |0,out,rest,h1,h2=>⟨h1,h2⟩
 |n+1,out,rest,h1,h2=>by
  rw[divF]
  cases Nat.blt rest.length q.length with
  |true=>exact⟨h1,h2⟩
  |false=>exact divF_trim n _ _ (lastZ_trimL _) (lastZ_trimL _)
theorem divL_spec{q:List Rat}(p:List Rat)(hz:lastZ q=false)(hq0:q≠[]):(divL p q).2.length<q.length∧∀x,evalL (divL p q).1 x*evalL q x+evalL (divL p q).2 x=evalL p x:=by
 have hl:=List.length_pos_iff.2 hq0
 obtain⟨g1,g2⟩:=divF_spec (top_ne hz hq0) (by omega) (p.length+1) [] (trimL p) (by have:=len_trimL p;omega)
 refine⟨g1,fun x => ?_⟩
 show evalL (divF _ _ _ _).1 x*_+evalL (divF _ _ _ _).2 x=_
 rw[g2 x,evalL_trimL]
 show(0:Rat)*_+_=_
 grind
theorem divL_trim(p q:List Rat):lastZ (divL p q).1=false∧lastZ (divL p q).2=false:=divF_trim _ _ _ rfl (lastZ_trimL _)
theorem coef_mul_top:∀(p q:List Rat),p≠[]→q≠[]→coef (mulL p q) (p.length+q.length-2)=topL p*topL q
 |[],q,h,_=>absurd rfl h
 |[a],q,_,hq=>by
  have hl:=List.length_pos_iff.2 hq
  rw[coef_mul_cons]
  show a*coef q ([a].length+q.length-2)+coef [0] _=a*coef q (q.length-1)
  rw[show [a].length+q.length-2=q.length-1 from by simp;omega]
  have:coef [0] (q.length-1)=0:=by
   cases q.length-1 with
   |zero=>rfl
   |succ n=>rfl
  rw[this,Rat.add_zero]
 |a::b::r,q,_,hq=>by
  have hl:=List.length_pos_iff.2 hq
  have ih:=coef_mul_top (b::r) q (by simp) hq
  rw[coef_mul_cons,coef_ge (p:=q) (by simp;omega)]
  rw[show (a::b::r).length+q.length-2=((b::r).length+q.length-2)+1 from by simp;omega,coef_succ,ih]
  have:topL (a::b::r)=topL (b::r):=by
   unfold topL
   rw[show (a::b::r).length-1=((b::r).length-1)+1 from by simp,coef_succ]
  rw[this];grind
theorem top_of_coef{p:List Rat}{i:Nat}(h:coef p i≠0):i<p.length:=by
 refine Nat.lt_of_not_le fun e=>h (coef_ge e)
theorem div_uniq{p q a r:List Rat}(hz:lastZ q=false)(hq0:q≠[])(ha:lastZ a=false)(hr:lastZ r=false)(hl:r.length<q.length)(h:∀x,evalL a x*evalL q x+evalL r x=evalL p x):divL p q=(a,r):=by
 obtain⟨g1,g2⟩:=divL_spec p hz hq0
 obtain⟨t1,t2⟩:=divL_trim p q
 have ea:(divL p q).1=a:=by
  refine coef_inj t1 ha (fun i => ?_)
  have key:trimL (addL (divL p q).1 (smulL (-1) a))=[]:=by
   refine Classical.byContradiction fun hne => ?_
   have h1:=coef_mul_top _ q hne hq0
   have h2:topL (trimL (addL (divL p q).1 (smulL (-1) a)))*topL q≠0:=by
    intro e
    rcases Rat.mul_eq_zero.1 e with e|e
    ·exact top_ne (lastZ_trimL _) hne e
    ·exact top_ne hz hq0 e
   have h3:=eval_coef (p:=mulL (trimL (addL (divL p q).1 (smulL (-1) a))) q) (q:=addL r (smulL (-1) (divL p q).2)) (fun x=>by
    have:=g2 x
    have:=h x
    rw[evalL_mulL,evalL_trimL,evalL_addL,evalL_smulL,evalL_addL,evalL_smulL];grind) ((trimL (addL (divL p q).1 (smulL (-1) a))).length+q.length-2)
   rw[h1,coef_addL,coef_smulL] at h3
   have hp:=List.length_pos_iff.2 hne
   rw[coef_ge (p:=r) (by omega),coef_ge (p:=(divL p q).2) (by omega)] at h3
   exact h2 (by rw[h3];grind)
  have:=coef_trimL (addL (divL p q).1 (smulL (-1) a)) i
  rw[key,coef_addL,coef_smulL,coef_nil] at this
  grind
 have er:(divL p q).2=r:=by
  refine coef_inj t2 hr (eval_coef (fun x => ?_))
  have h1:=g2 x
  have h2:=h x
  rw[ea] at h1
  grind
 exact Prod.ext ea er
theorem smulL_eval_inj{p:List Rat} : lastZ p=false→∀c,c≠0→lastZ (smulL c p)=false:=by
 intro hz c hc
 by_cases h:p=[]
 ·subst h;rfl
 ·have:=top_ne hz h
  unfold topL at this
  unfold lastZ
  have hl:=List.length_pos_iff.2 h
  rw[List.getLast?_eq_getElem?,len_smulL,coef_get (by rw[len_smulL];omega),coef_smulL]
  show decide (c*_=0)=false
  refine decide_eq_false (fun e => ?_)
  rcases Rat.mul_eq_zero.1 e with e|e
  ·exact hc e
  ·exact this e
theorem one_div_ne{c:Rat}(h:c≠0):1/c≠0:=by
 intro e
 have:=Rat.div_mul_cancel (a:=1) h
 rw[e,Rat.zero_mul] at this
 exact absurd this (by decide)
theorem monicL_of{p:List Rat}(hz:lastZ p=false)(h:p≠[]):monicL p=smulL (1/topL p) p:=by
 unfold monicL
 exact trimL_of (smulL_eval_inj hz _ (one_div_ne (top_ne hz h)))
theorem monicL_trim(p:List Rat):lastZ (monicL p)=false:=lastZ_trimL _
theorem monicL_len{p:List Rat}(hz:lastZ p=false):(monicL p).length=p.length:=by
 by_cases h:p=[]
 ·subst h;rfl
 ·rw[monicL_of hz h,len_smulL]
theorem monicL_eval{p:List Rat}(x:Rat):evalL (monicL p) x=1/topL p*evalL p x:=by
 unfold monicL
 rw[evalL_trimL,evalL_smulL]
theorem monicL_ne{p:List Rat}(hz:lastZ p=false)(h:p≠[]):monicL p≠[]:=by
 intro e
 have:=monicL_len hz
 rw[e] at this
 exact h (List.eq_nil_of_length_eq_zero this.symm)
theorem monicL_smul{p:List Rat}{c:Rat}(hz:lastZ p=false)(hc:c≠0):monicL (smulL c p)=monicL p:=by
 by_cases h:p=[]
 ·subst h;rfl
 ·have ht:=top_ne hz h
  have e:topL (smulL c p)=c*topL p:=by unfold topL;rw[len_smulL,coef_smulL]
  refine coef_inj (monicL_trim _) (monicL_trim _) (eval_coef (fun x => ?_))
  rw[monicL_eval,monicL_eval,e,evalL_smulL]
  have h1:=Rat.div_mul_cancel (a:=1) ht
  have hct:c*topL p≠0:=fun e=>by rcases Rat.mul_eq_zero.1 e with e|e;exact hc e;exact ht e
  have h2:=Rat.div_mul_cancel (a:=1) hct
  have h3:1/(c*topL p)*c=1/topL p:=by
   have:(1/(c*topL p)*c-1/topL p)*topL p=0:=by grind
   rcases Rat.mul_eq_zero.1 this with e|e
   ·grind
   ·exact absurd e ht
  grind
theorem monicL_idem{p:List Rat}(hz:lastZ p=false):monicL (monicL p)=monicL p:=by
 by_cases h:p=[]
 ·subst h;rfl
 ·rw[monicL_of hz h,monicL_smul hz (one_div_ne (top_ne hz h)),monicL_of hz h]
theorem restL_trim(p q:List Rat):lastZ (restL p q)=false:=(divL_trim p q).2
theorem gcdF_trim:∀(n:Nat) (p q:List Rat),lastZ p=false→lastZ q=false→lastZ (gcdF n p q)=false
 |0,p,q,hp,_=>hp
 |n+1,p,q,hp,hq=>by
  rw[gcdF]
  cases Nat.beq q.length 0 with
  |true=>exact hp
  |false=>exact gcdF_trim n _ _ hq (monicL_trim _)
theorem gcdL_trim(p q:List Rat):lastZ (gcdL p q)=false:=monicL_trim _
theorem gcdF_ne:∀(n:Nat) (p q:List Rat),p≠[]∨(q≠[]∧0<n)→gcdF n p q≠[]
 |0,p,q,h=>by rcases h with h|⟨_,h⟩;exact h;omega
 |n+1,p,q,h=>by
  rw[gcdF]
  by_cases hq:q.length=0
  ·rw[beq_iff.2 hq,cond_true]
   rcases h with h|⟨h,_⟩
   ·exact h
   ·exact absurd (List.eq_nil_of_length_eq_zero hq) h
  ·rw[beq_fal.2 hq,cond_false]
   exact gcdF_ne n q _ (Or.inl (fun e=>hq (by rw[e];rfl)))
theorem gcdL_ne{p:List Rat}(q:List Rat)(hp:lastZ p=false)(hq:lastZ q=false)(h:p≠[]):gcdL p q≠[]:=monicL_ne (gcdF_trim _ _ _ hp hq) (gcdF_ne _ _ _ (Or.inl h))
end Go.Proofs.YtjadajceekjeoaaGreatDoor.Sym
namespace Go.Proofs.YtjadajceekjeoaaGreatDoor.Sym
open Go Path CInt
set_option linter.unusedVariables false
def Ch(h:Nat)(p:List Rat):Prop:=∃D:Int,D≠0∧wl D≤h∧∀i,∃n:Int,coef p i*(D:Rat)=(n:Rat)∧wl n≤h
theorem cast_ne{D:Int}(h:D≠0):(D:Rat)≠0:=fun e=>h (Rat.intCast_inj.1 (by rw[e];rfl))
theorem mul_right_inj'{a b c:Rat}(hc:c≠0)(h:a*c=b*c):a=b:=by
 have:(a-b)*c=0:=by grind
 rcases Rat.mul_eq_zero.1 this with e|e
 ·grind
 ·exact absurd e hc
theorem ht_of_mul{x:Rat}{n D:Int}(hD:D≠0)(h:x*(D:Rat)=(n:Rat)):ht x≤max (wl n) (max (wl D) 1):=by
 have e:x=Rat.divInt n D:=by
  rw[Rat.divInt_eq_div]
  refine mul_right_inj' (cast_ne hD) ?_
  rw[h,Rat.div_mul_cancel (cast_ne hD)]
 rw[e];exact ht_divInt n D
theorem Ch.mono{h k:Nat}{p:List Rat}(hp:Ch h p)(hk:h≤k):Ch k p:=by
 obtain⟨D,h1,h2,h3⟩:=hp
 refine⟨D,h1,by omega,fun i => ?_⟩
 obtain⟨n,a,b⟩:=h3 i
 exact⟨n,a,by omega⟩
theorem Ch.ht{h:Nat}{p:List Rat}(hp:Ch h p)(i:Nat):ht (coef p i)≤max h 1:=by
 obtain⟨D,h1,h2,h3⟩:=hp
 obtain⟨n,a,b⟩:=h3 i
 have:=ht_of_mul h1 a
 omega
theorem Ch.fl{h:Nat}{p:List Rat}(hp:Ch h p)(h1:1≤h):Fl h p:=fl_of_coef (fun i=>by have:=hp.ht i;omega)
theorem Ch.congr{h:Nat}{p q:List Rat}(hp:Ch h p)(e:∀i,coef p i=coef q i):Ch h q:=by
 obtain⟨D,h1,h2,h3⟩:=hp
 refine⟨D,h1,h2,fun i => ?_⟩
 rw[←e i];exact h3 i
theorem Ch.trim{h:Nat}{p:List Rat}(hp:Ch h p):Ch h (trimL p):=hp.congr (fun i=>(coef_trimL p i).symm)
theorem Ch.nil{h:Nat}(h1:1≤h):Ch h []:=⟨1,by decide,by rw[wl_one];exact h1,fun i=>⟨0,by rw[coef_nil,Rat.zero_mul];rfl,Nat.zero_le _⟩⟩
theorem Ch.cons{h k:Nat}{a:Rat}{p:List Rat}(hp:Ch h p)(ha:Sym.ht a≤k):Ch (h+k) (a::p):=by
 obtain⟨D,h1,h2,h3⟩:=hp
 have hd:=ht_den a
 have hn:=ht_num a
 have hdz:(a.den:Int)≠0:=by have:=a.den_nz;omega
 have hden:a*((a.den:Int):Rat)=(a.num:Rat):=by
  have:a=Rat.divInt a.num a.den:=(Rat.num_divInt_den a).symm
  conv=>lhs;lhs;rw[this]
  rw[Rat.divInt_eq_div,Rat.div_mul_cancel (cast_ne hdz)]
 have hm:=wl_mul D a.den
 refine⟨D*a.den,by intro e;rcases Int.mul_eq_zero.1 e with e|e;exact h1 e;exact hdz e,by omega,fun i => ?_⟩
 cases i with
 |zero =>
  refine⟨a.num*D,?_,by have:=wl_mul a.num D;omega⟩
  rw[coef_zero,Rat.intCast_mul,Rat.intCast_mul,←hden];grind
 |succ i =>
  obtain⟨n,e1,e2⟩:=h3 i
  refine⟨n*a.den,?_,by have:=wl_mul n a.den;omega⟩
  rw[coef_succ,Rat.intCast_mul,Rat.intCast_mul,←e1];grind
theorem Ch.of_fl{k:Nat} : ∀{p:List Rat},Fl k p→Ch (p.length*k+1) p
 |[],_=>Ch.nil (by omega)
 |a::r,h=>by
  have:=(Ch.of_fl (fun x hx=>h x (List.mem_cons_of_mem _ hx))).cons (h a (List.mem_cons_self ..))
  rw[List.length_cons,Nat.add_mul,Nat.one_mul]
  exact this.mono (by omega)
theorem Ch.smul_monic{h:Nat}{p:List Rat}(hp:Ch h p)(ht:topL p≠0):Ch h (smulL (1/topL p) p):=by
 obtain⟨D,h1,h2,h3⟩:=hp
 obtain⟨t,e1,e2⟩:=h3 (p.length-1)
 have e1:topL p*(D:Rat)=(t:Rat):=e1
 have ht0:t≠0:=by
  intro e
  rw[e] at e1
  rcases Rat.mul_eq_zero.1 e1 with e|e
  ·exact ht e
  ·exact cast_ne h1 e
 refine⟨t,ht0,e2,fun i => ?_⟩
 obtain⟨n,g1,g2⟩:=h3 i
 refine⟨n,?_,g2⟩
 have:=Rat.div_mul_cancel (a:=1) ht
 rw[coef_smulL,←g1,←e1]
 grind
theorem Ch.monic{h:Nat}{p:List Rat}(hp:Ch h p)(h1:1≤h)(hz:lastZ p=false):Ch h (monicL p):=by
 by_cases e:p=[]
 ·subst e;exact Ch.nil h1
 ·exact(hp.smul_monic (top_ne hz e)).trim
theorem Ch.step{h b:Nat}{rest q:List Rat}(hr:Ch h rest)(hq:Ch b q)(hz:topL q≠0):Ch (h+b+1) (stepR rest q):=by
 refine Ch.trim ?_
 obtain⟨D,h1,h2,h3⟩:=hr
 obtain⟨E,g1,g2,g3⟩:=hq
 obtain⟨u,u1,u2⟩:=g3 (q.length-1)
 obtain⟨t,t1,t2⟩:=h3 (rest.length-1)
 have u1:topL q*(E:Rat)=(u:Rat):=u1
 have t1:topL rest*(D:Rat)=(t:Rat):=t1
 have hu0:u≠0:=by
  intro e
  rw[e] at u1
  rcases Rat.mul_eq_zero.1 u1 with e|e
  ·exact hz e
  ·exact cast_ne g1 e
 have hc:=stepC_mul (rest:=rest) hz
 have hm:=wl_mul D u
 refine⟨D*u,by intro e;rcases Int.mul_eq_zero.1 e with e|e;exact h1 e;exact hu0 e,by omega,fun i => ?_⟩
 obtain⟨n,e1,e2⟩:=h3 i
 rw[coef_addL,coef_shiftL,coef_smulL]
 by_cases hi:i<rest.length-q.length
 ·rw[if_pos hi]
  refine⟨n*u,?_,by have:=wl_mul n u;omega⟩
  rw[Rat.intCast_mul,Rat.intCast_mul,←e1];grind
 ·rw[if_neg hi]
  obtain⟨m,f1,f2⟩:=g3 (i-(rest.length-q.length))
  refine⟨n*u + -(t*m),?_,by have:=wl_mul n u;have:=wl_mul t m;have:=wl_neg (t*m);have:=wl_add (n*u) (-(t*m));omega⟩
  rw[Rat.intCast_mul,Rat.intCast_add,Rat.intCast_mul,Rat.intCast_neg,Rat.intCast_mul,←e1,←f1,←t1,←u1,←hc];grind
theorem divF_rest{b:Nat}{q:List Rat}(hq:Ch b q)(hz:topL q≠0)(hq0:q.length≠0):∀(n h:Nat) (out rest:List Rat),Ch h rest→Ch (h+(rest.length+1-q.length)*(b+1)) (divF n out rest q).2
 |0,h,out,rest,hr=>hr.mono (by omega)
 |n+1,h,out,rest,hr=>by
  rw[divF]
  cases hb:Nat.blt rest.length q.length with
  |true=>exact hr.mono (by omega)
  |false =>
   have hl:=blt_fal.1 hb
   have h1:=stepR_len hz hq0 hl
   have ih:=divF_rest hq hz hq0 n (h+b+1) (trimL (addL out (shiftL (rest.length-q.length) [stepC rest q]))) (stepR rest q) (hr.step hq hz)
   refine ih.mono ?_
   have e:rest.length+1-q.length=(rest.length-q.length)+1:=by omega
   have h2:((stepR rest q).length+1-q.length)*(b+1)≤(rest.length-q.length)*(b+1):=Nat.mul_le_mul_right _ (by omega)
   rw[e,Nat.add_mul,Nat.one_mul]
   omega
theorem divF_out{b M:Nat}{q:List Rat}(hq:Ch b q)(hb1:1≤b)(hz:topL q≠0)(hq0:q.length≠0):∀(n h:Nat) (out rest:List Rat),1≤h→Ch h rest→h+(rest.length+1-q.length)*(b+1)≤M→(∀i,i+q.length≤rest.length→coef out i=0)→(∀i,ht (coef out i)≤M+b)→∀i,ht (coef (divF n out rest q).1 i)≤M+b
 |0,h,out,rest,_,_,_,_,ho=>ho
 |n+1,h,out,rest,h1,hr,hM,hc0,ho=>by
  rw[divF]
  cases hb:Nat.blt rest.length q.length with
  |true=>exact ho
  |false =>
   have hl:=blt_fal.1 hb
   have hs:=stepR_len hz hq0 hl
   have e:rest.length+1-q.length=(rest.length-q.length)+1:=by omega
   have h2:((stepR rest q).length+1-q.length)*(b+1)≤(rest.length-q.length)*(b+1):=Nat.mul_le_mul_right _ (by omega)
   rw[e,Nat.add_mul,Nat.one_mul] at hM
   have cc:∀i,coef (trimL (addL out (shiftL (rest.length-q.length) [stepC rest q]))) i=if i=rest.length-q.length then stepC rest q else coef out i:=by
    intro i
    rw[coef_trimL,coef_addL,coef_shiftL]
    by_cases h3:i=rest.length-q.length
    ·rw[if_pos h3,if_neg (by omega),hc0 i (by omega),h3,Nat.sub_self,coef_zero,Rat.zero_add]
    ·rw[if_neg h3]
     split
     ·rw[Rat.add_zero]
     ·rw[coef_ge (p:=[stepC rest q]) (by simp;omega),Rat.add_zero]
   refine divF_out hq hb1 hz hq0 n (h+b+1) _ (stepR rest q) (by omega) (hr.step hq hz) (by omega) (fun i hi => ?_) (fun i => ?_)
   ·rw[cc,if_neg (by omega)]
    exact hc0 i (by omega)
   ·rw[cc]
    split
    ·unfold stepC
     have a1:=ht_div (topL rest) (topL q)
     have a2:=hr.ht (rest.length-1)
     have a3:=hq.ht (q.length-1)
     have a2:ht (topL rest)≤max h 1:=a2
     have a3:ht (topL q)≤max b 1:=a3
     omega
    ·exact ho i
theorem Ch.rest{h b:Nat}{p q:List Rat}(hp:Ch h p)(hq:Ch b q)(hz:lastZ q=false)(hq0:q≠[]):Ch (h+(p.length+1-q.length)*(b+1)) (restL p q):=by
 have:=divF_rest hq (top_ne hz hq0) (by intro e;exact hq0 (List.eq_nil_of_length_eq_zero e)) (p.length+1) h [] (trimL p) hp.trim
 refine Ch.mono this ?_
 have h1:=len_trimL p
 have:((trimL p).length+1-q.length)*(b+1)≤(p.length+1-q.length)*(b+1):=Nat.mul_le_mul_right _ (by omega)
 omega
theorem ht_quot{h b:Nat}{p q:List Rat}(hp:Ch h p)(hq:Ch b q)(h1:1≤h)(hb1:1≤b)(hz:lastZ q=false)(hq0:q≠[]):Fl (h+(p.length+1-q.length)*(b+1)+b) (divL p q).1:=by
 have hl:=len_trimL p
 have h2:((trimL p).length+1-q.length)*(b+1)≤(p.length+1-q.length)*(b+1):=Nat.mul_le_mul_right _ (by omega)
 exact fl_of_coef (divF_out hq hb1 (top_ne hz hq0) (by intro e;exact hq0 (List.eq_nil_of_length_eq_zero e)) (p.length+1) h [] (trimL p) h1 hp.trim (by omega) (fun i _=>rfl) (fun i=>Nat.le_trans (Nat.le_of_eq ht_zero) (by omega)))
theorem divL_len{p q:List Rat}(hz:lastZ q=false)(hq0:q≠[]):(divL p q).1.length≤p.length+1-q.length:=by
 have key:∀(n:Nat) (out rest:List Rat),rest.length≤p.length→out.length≤p.length+1-q.length→(divF n out rest q).1.length≤p.length+1-q.length:=by
  intro n
  induction n with
  |zero=>intro out rest _ h;exact h
  |succ n ih =>
   intro out rest h1 h2
   rw[divF]
   cases hb:Nat.blt rest.length q.length with
   |true=>exact h2
   |false =>
    have hl:=blt_fal.1 hb
    have hs:=stepR_len (top_ne hz hq0) (by intro e;exact hq0 (List.eq_nil_of_length_eq_zero e)) hl
    refine ih _ _ (by omega) ?_
    have h3:=len_trimL (addL out (shiftL (rest.length-q.length) [stepC rest q]))
    rw[len_addL] at h3
    unfold shiftL at h3
    rw[List.length_append,List.length_replicate] at h3
    simp only[List.length_cons,List.length_nil] at h3
    unfold shiftL
    omega
 exact key _ _ _ (len_trimL p) (by simp)
def xB(a b:Nat):Nat→Nat
 |0=>a
 |1=>b
 |j+2=>xB a b j+2*(xB a b (j+1)+1)
theorem xB_mono(a b:Nat)(h:a≤b):∀j,xB a b j≤xB a b (j+1)
 |0=>h
 |j+1=>by rw[xB];omega
theorem xB_le(a b:Nat)(h:a≤b){i j:Nat}(hij:i≤j):xB a b i≤xB a b j:=by
 induction hij with
 |refl=>exact Nat.le_refl _
 |step _ ih=>exact Nat.le_trans ih (xB_mono a b h _)
theorem xB_gap(a b:Nat)(h:a≤b)(j:Nat):∀d,xB a b j+(d+2)*(xB a b (j+1)+1)≤xB a b (j+1+(d+1))
 |0=>Nat.le_refl _
 |d+1=>by
  have ih:=xB_gap a b h j d
  have h1:=xB_le a b h (i:=j+1) (j:=j+1+d) (by omega)
  have e:xB a b (j+1+(d+1+1))=xB a b (j+1+d)+2*(xB a b (j+1+(d+1))+1):=rfl
  rw[e]
  have e2:(d+1+2)*(xB a b (j+1)+1)=(d+2)*(xB a b (j+1)+1)+(xB a b (j+1)+1):=by rw[show d+1+2=(d+2)+1 from by omega,Nat.add_mul,Nat.one_mul]
  rw[e2]
  omega
structure Euc (a b N i j:Nat) (p q:List Rat):Prop where
 hp:Ch (xB a b i) p
 hq:Ch (xB a b j) q
 lt:i<j
 len:q.length<p.length
 bound:j+p.length≤N+1
 zp:lastZ p=false
 zq:lastZ q=false
theorem Euc.rest{a b N i j:Nat}{p q:List Rat}(e:Euc a b N i j p q)(hab:a≤b)(hq0:q≠[]):Ch (xB a b (j+(p.length-q.length))) (restL p q)∧(restL p q).length<q.length:=by
 have h1:=e.hp.rest e.hq e.zq hq0
 have hl:=(divL_spec p e.zq hq0).1
 have hlen:=e.len
 have hlt:=e.lt
 refine⟨h1.mono ?_,hl⟩
 obtain⟨j',rfl⟩:∃j',j=j'+1:=⟨j-1,by omega⟩
 obtain⟨d,hd⟩:∃d,p.length-q.length=d+1:=⟨p.length-q.length-1,by omega⟩
 have h2:=xB_le a b hab (i:=i) (j:=j') (by omega)
 have h3:=xB_gap a b hab j' d
 rw[hd,show p.length+1-q.length=d+2 from by omega]
 omega
theorem Euc.next{a b N i j:Nat}{p q r:List Rat}(e:Euc a b N i j p q)(hab:a≤b)(hq0:q≠[])(hr:Ch (xB a b (j+(p.length-q.length))) r)(hl:r.length<q.length)(hz:lastZ r=false):Euc a b N j (j+(p.length-q.length)) q r:=by
 have:=e.len
 have:=e.bound
 exact⟨e.hq,hr,by omega,hl,by omega,e.zq,hz⟩
theorem Euc.idx{a b N i j:Nat}{p q:List Rat}(e:Euc a b N i j p q):j≤N+1:=by have:=e.bound;omega
theorem gcdF_Ch{a b N:Nat}(ha:1≤a)(hab:a≤b):∀(n i j:Nat) (p q:List Rat),Euc a b N i j p q→Ch (xB a b (N+1)) (gcdF n p q)
 |0,i,j,p,q,e=>e.hp.mono (xB_le a b hab (by have:=e.idx;have:=e.lt;omega))
 |n+1,i,j,p,q,e=>by
  rw[gcdF]
  by_cases h:q.length=0
  ·rw[beq_iff.2 h,cond_true];exact e.hp.mono (xB_le a b hab (by have:=e.idx;have:=e.lt;omega))
  ·have hne:q≠[]:=fun e=>h (by rw[e];rfl)
   rw[beq_fal.2 h,cond_false]
   obtain⟨h1,h2⟩:=e.rest hab hne
   have hz:=restL_trim p q
   refine gcdF_Ch ha hab n _ _ q _ (e.next hab hne (h1.monic (Nat.le_trans ha (xB_le a b hab (i:=0) (Nat.zero_le _))) hz) (by rw[monicL_len hz];exact h2) (monicL_trim _))
theorem Ch.derive{h:Nat}{p:List Rat}(hp:Ch h p)(hl:p.length≤1000):Ch (h+1) (deriveL p):=by
 refine Ch.trim ?_
 have key:∀(q:List Rat) (i:Nat) (j:Nat),coef (derI i q) j=((i+j:Nat):Int)*coef q j:=by
  intro q
  induction q with
  |nil=>intro i j;show(0:Rat)=_*0;rw[Rat.mul_zero]
  |cons a r ih =>
   intro i j
   cases j with
   |zero=>rfl
   |succ j =>
    rw[derI,coef_succ,coef_succ,ih (i+1) j,show i+1+j=i+(j+1) from by omega]
 have hd:∀j,coef (p.drop 1) j=coef p (j+1):=by
  intro j
  cases p with
  |nil=>rfl
  |cons a r=>rfl
 obtain⟨D,h1,h2,h3⟩:=hp
 refine⟨D,h1,by omega,fun i => ?_⟩
 rw[key,hd]
 by_cases hi:i+1<p.length
 ·obtain⟨n,e1,e2⟩:=h3 (i+1)
  refine⟨((1+i:Nat):Int)*n,?_,?_⟩
  ·rw[Rat.intCast_mul,←e1];grind
  ·have:=wl_mul ((1+i:Nat):Int) n
   have:wl ((1+i:Nat):Int)≤1:=wl_le (by omega)
   omega
 ·rw[coef_ge (by omega)]
  exact⟨0,by grind,Nat.zero_le _⟩
end Go.Proofs.YtjadajceekjeoaaGreatDoor.Sym
namespace Go.Proofs.YtjadajceekjeoaaGreatDoor.Sym
open Go Path CInt
set_option linter.unusedVariables false
theorem getTop{q:List Rat}(h:q≠[]):q[q.length-1]? = some (topL q):=coef_get (by have:=List.length_pos_iff.2 h;omega)
theorem ht_top{h:Nat}{q:List Rat}(hq:Ch h q)(h1:1≤h):ht (topL q)≤h:=by have:=hq.ht (q.length-1);unfold topL;omega
namespace CPl
theorem TrimX2:∀(n:Nat) (q:List Rat),q.length=n→n<4611686018427387904→Fl 274877906944 q→poly_TrimX.Loop2 (q.map mkR) [] (.row 0 0 ((trimL q).map mkR).length 3) [(0,(.pure (((trimL q).map mkR).map ARat.cells).flatten))]:=by
 intro n
 induction n with
 |zero =>
  intro q hq _ _
  have:q=[]:=List.eq_nil_of_length_eq_zero hq
  subst this
  exact poly_TrimX.l22 [] rfl rfl (by simp)
 |succ n ih =>
  intro q hq hb hf
  obtain⟨v,hv⟩:∃v,q[n]? = some v:=⟨_,List.getElem?_eq_getElem (by omega)⟩
  have hs:=snoc_of hv hq
  have hm:(q.map mkR)[n]? = some (mkR v):=by rw[List.getElem?_map,hv];rfl
  have hv1:=hf v (List.mem_of_getElem? hv)
  have sg:=CFr.Sign (mkR v) (fit_mkR hv1)
  rw[mkR_val] at sg
  have hl:(q.map mkR).length=n+1:=by rw[List.length_map];exact hq
  by_cases h0:v=0
  ·have e:trimL q=trimL (q.take n):=by
    conv=>lhs;rw[hs,h0,trimL_zero]
   rw[e]
   refine poly_TrimX.l20 (q.map mkR) n (mkR v) _ n rfl (by omega) (by unfold InI64;omega) (by omega) (by omega) hm sg (cmpR_eq.2 h0) (by omega) (by omega) ?_
   have:=ih (q.take n) (by rw[List.length_take];omega) (by omega) (fun x hx=>hf x (List.mem_of_mem_take hx))
   rwa[List.map_take] at this
  ·have e:trimL q=q:=by rw[hs,trimL_ne h0]
   rw[e]
   exact poly_TrimX.l21 (q.map mkR) n (mkR v) _ rfl rfl (by omega) (by unfold InI64;omega) (by omega) (by omega) hm sg (fun e=>h0 (cmpR_eq.1 e))
theorem TrimX{k:Nat}(q:List Rat)(hl:q.length≤1000000)(hf:Fl k q)(hk:k≤68719476736):ContractX prg 141 [.pv (pq q)] [] (.row 0 0 ((trimL q).map mkR).length 3) [(0,(.pure (((trimL q).map mkR).map ARat.cells).flatten))]:=by
 have loop:∀(j t:Nat) (site:List ARat),q.length-t=j→t≤q.length→site=(q.take t).map mkR→poly_TrimX.Loop1 site (q.map mkR) t [] (.row 0 0 ((trimL q).map mkR).length 3) [(0,(.pure (((trimL q).map mkR).map ARat.cells).flatten))]:=by
  intro j
  induction j with
  |zero =>
   intro t site hj ht hs
   refine poly_TrimX.l11 site _ _ rfl (by rw[lenM];omega) ?_
   rw[List.take_of_length_le (by omega)] at hs
   rw[hs]
   exact TrimX2 q.length q rfl (by omega) (fl_mono hf (by omega))
  |succ j ih =>
   intro t site hj ht hs
   obtain⟨v,hv⟩:∃v,q[t]? = some v:=⟨_,List.getElem?_eq_getElem (by omega)⟩
   have hvh:=hf v (List.mem_of_getElem? hv)
   have hsl:site.length=t:=by rw[hs,List.length_map,List.length_take];omega
   refine poly_TrimX.l10 site _ t _ _ rfl (by rw[lenM];omega) (getM hv) (QF.addZ v (by omega)) (by simp;omega) (by omega) (ih (t+1) _ (by omega) (by omega) ?_)
   rw[hs,List.take_add_one,hv];simp
 exact poly_TrimX.e0 _ (loop _ 0 [] rfl (by omega) rfl)
theorem divide{h b:Nat}(p q:List Rat)(hz:lastZ q=false)(hq0:q≠[])(hp:Ch h p)(hq:Ch b q)(h1:1≤h)(hb1:1≤b)(hlp:p.length≤10000)(hlq:q.length≤10000)(hk:2*(h+(p.length+1-q.length)*(b+1))+3*b+5≤68719476736):Contract prg 85 [pq p,pq q] (.tup [pq (divL p q).1,pq (divL p q).2]):=by
 have hql:=List.length_pos_iff.2 hq0
 have hqt:=ht_top hq hb1
 have htop:=top_ne hz hq0
 obtain⟨H,hH⟩:∃H,H=h+(p.length+1-q.length)*(b+1):=⟨_,rfl⟩
 rw[←hH] at hk
 have hqc:∀i,ht (coef q i)≤b:=fun i=>by have:=hq.ht i;omega
 have loop:∀(n hc:Nat) (out rest:List Rat),rest.length<n→1≤hc→Ch hc rest→hc+(rest.length+1-q.length)*(b+1)≤H→lastZ out=false→lastZ rest=false→out.length≤p.length+1-q.length→rest.length≤p.length→(∀i,ht (coef out i)≤H+b)→(∀i,i+q.length≤rest.length→coef out i=0) →
   poly_divide.Loop1 (q.map mkR) (rest.map mkR).length (p.length+1-q.length) (mkR (topL q)) (rest.map mkR) ((tabL (p.length+1-q.length) (coef out)).map mkR) (.tup [pq (divF n out rest q).1,pq (divF n out rest q).2]):=by
  intro n
  induction n with
  |zero=>intro hc out rest hn;omega
  |succ n ih =>
   intro hc out rest hn hc1 hr hcH zo zr lo lr ho hout
   rw[divF]
   cases hb:Nat.blt rest.length q.length with
   |true =>
    have hlt:=blt_iff.1 hb
    rw[cond_true]
    have e:trimL (tabL (p.length+1-q.length) (coef out))=out:=by
     rw[←trimL_of zo]
     refine trimL_ext (fun i => ?_)
     rw[trimL_of zo]
     exact tabL_coef (fun i hi=>coef_ge (by omega)) i
    have ht:=Trim (k:=H+b) (tabL (p.length+1-q.length) (coef out)) (by rw[tabL_len];omega) (fl_of_coef (fun i=>by
     rw[tabL_coef (fun i hi=>coef_ge (by omega))];exact ho i)) (by omega)
    rw[e] at ht
    exact poly_divide.l11 _ _ _ _ _ _ _ (by rw[lenM,lenM];exact hlt) (by rw[lenM,tabL_len]) ht rfl
   |false =>
    have hle:=blt_fal.1 hb
    rw[cond_false]
    have hr0:rest≠[]:=by intro e;rw[e] at hle;simp at hle;exact hq0 hle
    have hrt:=ht_top hr hc1
    have hrc:∀i,ht (coef rest i)≤hc:=fun i=>by have:=hr.ht i;omega
    have hsl:=stepR_len htop (by omega) hle
    have e1:rest.length+1-q.length=(rest.length-q.length)+1:=by omega
    have e2:((stepR rest q).length+1-q.length)*(b+1)≤(rest.length-q.length)*(b+1):=Nat.mul_le_mul_right _ (by omega)
    rw[e1,Nat.add_mul,Nat.one_mul] at hcH
    have hcc:ht (stepC rest q)≤hc+b:=by
     have:=ht_div (topL rest) (topL q)
     unfold stepC;omega
    have hdiv:=QF.Div (topL rest) (topL q) (by omega) (by omega) htop
    have cc:∀i,coef (trimL (addL out (shiftL (rest.length-q.length) [stepC rest q]))) i=if i=rest.length-q.length then stepC rest q else coef out i:=by
     intro i
     rw[coef_trimL,coef_addL,coef_shiftL]
     by_cases h3:i=rest.length-q.length
     ·rw[if_pos h3,if_neg (by omega),hout i (by omega),h3,Nat.sub_self,coef_zero,Rat.zero_add]
     ·rw[if_neg h3]
      split
      ·rw[Rat.add_zero]
      ·rw[coef_ge (p:=[stepC rest q]) (by simp;omega),Rat.add_zero]
    refine poly_divide.l10 _ _ _ _ _ _ (rest.length-1) (mkR (topL rest)) (mkR (stepC rest q)) none (rest.length-q.length) (by rw[lenM,lenM];exact hle) (by rw[lenM,lenM];unfold InI64;omega) (by rw[lenM];unfold InI64;omega) (by rw[lenM];omega) (by rw[lenM];omega) (getM (getTop hr0)) hdiv (by rw[lenM,lenM];omega) (by omega) (by rw[lenM,tabL_len];omega) ?_
    rw[tab_step (f:=coef (trimL (addL out (shiftL (rest.length-q.length) [stepC rest q])))) (by omega) (by rw[cc,if_pos rfl]) (fun i hi=>by rw[cc,if_neg hi])]
    have next:=ih (hc+b+1) (trimL (addL out (shiftL (rest.length-q.length) [stepC rest q]))) (stepR rest q) (by omega) (by omega) (hr.step hq htop) (by omega) (lastZ_trimL _) (lastZ_trimL _) (len_trim_le (fun i hi=>by
     rw[←coef_trimL,cc,if_neg (by omega),coef_ge (by omega)])) (by omega) (fun i=>by
     rw[cc]
     split
     ·omega
     ·exact ho i) (fun i hi=>by rw[cc,if_neg (by omega)];exact hout i (by omega))
    have inner:∀(j t:Nat),q.length-t=j→t≤q.length→poly_divide.Loop2 (q.map mkR) (rest.map mkR).length (p.length+1-q.length) (((rest.map mkR).length:Int)-((q.map mkR).length:Int)) t (mkR (topL q)) (mkR (stepC rest q)) ((tabL rest.length (fun i=>coef rest i-if rest.length-q.length≤i∧i<rest.length-q.length+t then stepC rest q*coef q (i-(rest.length-q.length)) else 0)).map mkR) ((tabL (p.length+1-q.length) (coef (trimL (addL out (shiftL (rest.length-q.length) [stepC rest q]))))).map mkR)
      (.tup [pq (divF n (trimL (addL out (shiftL (rest.length-q.length) [stepC rest q]))) (stepR rest q) q).1,pq (divF n (trimL (addL out (shiftL (rest.length-q.length) [stepC rest q]))) (stepR rest q) q).2]):=by
     intro j
     induction j with
     |zero =>
      intro t hj ht
      have e:trimL (tabL rest.length (fun i=>coef rest i-if rest.length-q.length≤i∧i<rest.length-q.length+t then stepC rest q*coef q (i-(rest.length-q.length)) else 0))=stepR rest q:=by
       refine trimL_ext (fun i => ?_)
       rw[coef_addL,coef_shiftL,coef_smulL]
       by_cases hi:i<rest.length
       ·rw[coef_of (tabL_get _ hi)]
        by_cases h3:i<rest.length-q.length
        ·rw[if_neg (by omega),if_pos h3];grind
        ·rw[if_pos (by omega),if_neg h3];grind
       ·rw[coef_ge (p:=tabL _ _) (by rw[tabL_len];omega),coef_ge (p:=rest) (by omega),if_neg (by omega),coef_ge (p:=q) (by omega)];grind
      have htx:=TrimX (k:=2*hc+2*b+1) (tabL rest.length (fun i=>coef rest i-if rest.length-q.length≤i∧i<rest.length-q.length+t then stepC rest q*coef q (i-(rest.length-q.length)) else 0)) (by rw[tabL_len];omega) (fl_of_coef (fun i=>by
       by_cases hi:i<rest.length
       ·rw[coef_of (tabL_get _ hi)]
        have a1:=hrc i
        have a2:=hqc (i-(rest.length-q.length))
        have a3:=ht_mul (stepC rest q) (coef q (i-(rest.length-q.length)))
        have a4:=ht_sub (coef rest i) (stepC rest q*coef q (i-(rest.length-q.length)))
        split
        ·omega
        ·rw[show coef rest i-0=coef rest i from by grind];omega
       ·rw[coef_ge (p:=tabL _ _) (by rw[tabL_len];omega),ht_zero];omega)) (by omega)
      rw[e] at htx
      exact poly_divide.l21 _ _ _ _ _ _ _ _ _ _ _ (by rw[lenM];omega) (by rw[lenM,lenM,tabL_len]) htx next
     |succ j ih2 =>
      intro t hj ht
      obtain⟨w,hw⟩:∃w,q[t]? = some w:=⟨_,List.getElem?_eq_getElem (by omega)⟩
      have hwc:=coef_of hw
      have a2:=hqc t
      rw[hwc] at a2
      have a1:=hrc (rest.length-q.length+t)
      have a3:=ht_mul (stepC rest q) w
      have hg:rest.length-q.length+t<rest.length:=by omega
      refine poly_divide.l20 _ _ _ _ _ _ _ _ _ (mkR w) (rest.length-q.length+t) (mkR (coef rest (rest.length-q.length+t))) _ _ (rest.length-q.length+t) (by rw[lenM];omega) (getM hw) (by rw[lenM,lenM];unfold InI64;omega) (by rw[lenM,lenM];omega) (by rw[lenM];omega) ?_ (QF.Mul _ _ (by omega) (by omega)) (QF.Sub (coef rest (rest.length-q.length+t)) (stepC rest q*w) (by omega) (by omega)) (by rw[lenM,lenM];omega) (by rw[lenM];omega) (by rw[lenM,tabL_len];omega) (by omega) ?_
      ·rw[getM (tabL_get _ hg),if_neg (by omega)]
       congr 2;grind
      ·rw[tab_step (f:=fun i=>coef rest i-if rest.length-q.length≤i∧i<rest.length-q.length+(t+1) then stepC rest q*coef q (i-(rest.length-q.length)) else 0) hg (by
        rw[if_pos (by omega),show rest.length-q.length+t-(rest.length-q.length)=t from by omega,hwc]) (fun i hi=>by
        by_cases h:rest.length-q.length≤i∧i<rest.length-q.length+t
        ·rw[if_pos h,if_pos (by omega)]
        ·rw[if_neg h,if_neg (by omega)])]
       exact ih2 (t+1) (by omega) (by omega)
    have:=inner _ 0 rfl (by omega)
    have e0:(tabL rest.length (fun i=>coef rest i-if rest.length-q.length≤i∧i<rest.length-q.length+0 then stepC rest q*coef q (i-(rest.length-q.length)) else 0))=rest:=by
     refine List.ext_getElem? (fun i => ?_)
     by_cases hi:i<rest.length
     ·rw[tabL_get _ hi,coef_get hi,if_neg (by omega)]
      congr 1;grind
     ·rw[List.getElem?_eq_none (by rw[tabL_len];omega),List.getElem?_eq_none (by omega)]
    rwa[e0] at this
 have hlt:=len_trimL p
 have hmul:((trimL p).length+1-q.length)*(b+1)≤(p.length+1-q.length)*(b+1):=Nat.mul_le_mul_right _ (by omega)
 have:=loop (p.length+1) h [] (trimL p) (by omega) h1 hp.trim (by omega) rfl (lastZ_trimL p) (by simp) hlt (fun i=>by rw[coef_nil,ht_zero];omega) (fun i _=>rfl)
 have htx:=TrimX (k:=h) p (by omega) (hp.fl h1) (by omega)
 refine poly_divide.e0 _ _ _ _ (p.length+1-q.length) (q.length-1) (mkR (topL q)) htx (by rw[lenM,lenM];unfold InI64;omega) (by rw[lenM,lenM];unfold InI64;omega) (by rw[lenM,lenM];omega) (by omega) (by rw[lenM];unfold InI64;omega) (by rw[lenM];omega) (getM (getTop hq0)) ?_
 rw[tabL_zero]
 exact this
theorem monic{h:Nat}(p:List Rat)(hz:lastZ p=false)(hp:Ch h p)(h1:1≤h)(hl:p.length≤10000)(hk:3*h+3≤68719476736):Contract prg 88 [pq p] (pq (monicL p)):=by
 by_cases h0:p=[]
 ·subst h0;exact poly_monic.e0 _ rfl
 ·have htop:=top_ne hz h0
  have htp:=ht_top hp h1
  have hp0:=List.length_pos_iff.2 h0
  have hone:=CFr.Of 1 (by unfold InI64;omega)
  have z1:ht ((1:Int):Rat)=1:=by decide
  have hd:=QF.Div ((1:Int):Rat) (topL p) (by omega) (by omega) htop
  have b1:=ht_div ((1:Int):Rat) (topL p)
  have hpl:=plus (a:=1) (d:=h+1) [] p (((1:Int):Rat)/topL p) (by simp) (by omega) (fun x hx=>by cases hx) (hp.fl h1) (by omega) (by omega) h1 (by omega)
  have e:trimL (addL [] (smulL (((1:Int):Rat)/topL p) p))=monicL p:=rfl
  rw[e] at hpl
  exact poly_monic.e1 _ _ (p.length-1) _ _ none _ (by rw[lenM];omega) hone (by rw[lenM];unfold InI64;omega) (by rw[lenM];omega) (getM (getTop h0)) hd hpl
theorem gcd{a b N i j:Nat}(ha:1≤a)(hab:a≤b)(hN:N≤1000)(hk:4*xB a b (N+2)+10≤68719476736)(p q:List Rat)(e:Euc a b N i j p q)(hl:p.length≤10000):Contract prg 86 [pq p,pq q] (pq (gcdL p q)):=by
 have hx:xB a b (N+2)=xB a b N+2*(xB a b (N+1)+1):=rfl
 have x1:∀j,1≤xB a b j:=fun j=>Nat.le_trans ha (xB_le a b hab (i:=0) (Nat.zero_le _))
 have loop:∀(n i j:Nat) (p q:List Rat),q.length<n→Euc a b N i j p q→p.length≤10000→poly_gcd.Loop1 (p.map mkR) (q.map mkR) (pq (monicL (gcdF n p q))):=by
  intro n
  induction n with
  |zero=>intro i j p q hn;omega
  |succ n ih =>
   intro i j p q hn e hl
   have hi:=e.idx
   have hij:=e.lt
   rw[gcdF]
   by_cases h:q.length=0
   ·rw[beq_iff.2 h,cond_true]
    have:=xB_le a b hab (i:=i) (j:=N+1) (by omega)
    exact poly_gcd.l11 _ _ _ (by rw[lenM];omega) (monic p e.zp e.hp (x1 i) hl (by omega))
   ·have hne:q≠[]:=fun e=>h (by rw[e];rfl)
    rw[beq_fal.2 h,cond_false]
    obtain⟨r1,r2⟩:=e.rest hab hne
    have hz:=restL_trim p q
    have hlen:=e.len
    have hbd:=e.bound
    have b1:=xB_le a b hab (i:=j+(p.length-q.length)) (j:=N+1) (by omega)
    have hd:=divide p q e.zq hne e.hp e.hq (x1 i) (x1 j) hl (by omega) (by
     obtain⟨j',rfl⟩:∃j',j=j'+1:=⟨j-1,by omega⟩
     obtain⟨d,hd⟩:∃d,p.length-q.length=d+1:=⟨p.length-q.length-1,by omega⟩
     have h2:=xB_le a b hab (i:=i) (j:=j') (by omega)
     have h3:=xB_gap a b hab j' d
     have h4:=xB_le a b hab (i:=j'+1+(d+1)) (j:=N+1) (by omega)
     have h5:=xB_le a b hab (i:=j'+1) (j:=N) (by omega)
     rw[show p.length+1-q.length=d+2 from by omega]
     omega)
    have hm:=monic (restL p q) hz r1 (x1 _) (by omega) (by omega)
    exact poly_gcd.l10 _ _ _ _ _ (by rw[lenM];omega) hd hm (ih _ _ q _ (by rw[monicL_len hz];omega) (e.next hab hne (r1.monic (x1 _) hz) (by rw[monicL_len hz];exact r2) (monicL_trim _)) (by omega))
 exact poly_gcd.e0 _ _ (loop (q.length+1) i j p q (Nat.lt_succ_self _) e hl)
end CPl
end Go.Proofs.YtjadajceekjeoaaGreatDoor.Sym
namespace Go.Proofs.YtjadajceekjeoaaGreatDoor.Sym
open Go Path CInt
set_option linter.unusedVariables false
def Dv(p q:List Rat):Prop:=∃u,∀x,evalL q x=evalL u x*evalL p x
def Cop(p q:List Rat):Prop:=∃u v,∀x,evalL u x*evalL p x+evalL v x*evalL q x=1
def powL(t:List Rat):Nat→List Rat
 |0=>[1]
 |k+1=>mulL (powL t k) t
theorem eval_c(c x:Rat):evalL [c] x=c:=by show 0*x+c=c;grind
theorem evalL_powL(t:List Rat)(x:Rat):∀k,evalL (powL t k) x=evalL t x^k
 |0=>by rw[powL,eval_c,Rat.pow_zero]
 |k+1=>by rw[powL,evalL_mulL,evalL_powL t x k,Rat.pow_succ]
theorem Dv.refl(p:List Rat):Dv p p:=⟨[1],fun x=>by rw[eval_c,Rat.one_mul]⟩
theorem Dv.trans{p q r:List Rat}(h:Dv p q)(k:Dv q r):Dv p r:=by
 obtain⟨u,hu⟩:=h
 obtain⟨v,hv⟩:=k
 exact⟨mulL v u,fun x=>by rw[hv,hu,evalL_mulL];grind⟩
theorem Cop.symm{p q:List Rat}(h:Cop p q):Cop q p:=by
 obtain⟨u,v,e⟩:=h
 exact⟨v,u,fun x=>by have:=e x;grind⟩
theorem Cop.of_dv{p q r:List Rat}(h:Cop p q)(k:Dv r p):Cop r q:=by
 obtain⟨u,v,e⟩:=h
 obtain⟨w,hw⟩:=k
 exact⟨mulL u w,v,fun x=>by have:=e x;rw[hw] at this;rw[evalL_mulL];grind⟩
theorem Cop.mul{p q r:List Rat}(h:Cop p q)(k:Cop p r):Cop p (mulL q r):=by
 obtain⟨u,v,e⟩:=h
 obtain⟨u',v',e'⟩:=k
 refine⟨addL u (mulL (mulL v q) u'),mulL v v',fun x => ?_⟩
 have h1:=e x
 have h2:=e' x
 rw[evalL_addL,evalL_mulL,evalL_mulL,evalL_mulL,evalL_mulL]
 have:(evalL u x+evalL v x*evalL q x*evalL u' x)*evalL p x+evalL v x*evalL v' x*(evalL q x*evalL r x)=evalL u x*evalL p x+evalL v x*evalL q x*(evalL u' x*evalL p x+evalL v' x*evalL r x):=by grind
 rw[this,h2];grind
theorem Cop.pow{p q:List Rat}(h:Cop p q):∀k,Cop p (powL q k)
 |0=>⟨[],[1],fun x=>by rw[powL,eval_c];show(0:Rat)*_+_=_;grind⟩
 |k+1=>(h.pow k).mul h
theorem Cop.dv{p q r:List Rat}(h:Cop p q)(k:Dv p (mulL q r)):Dv p r:=by
 obtain⟨u,v,e⟩:=h
 obtain⟨w,hw⟩:=k
 refine⟨addL (mulL u r) (mulL v w),fun x => ?_⟩
 have h1:=e x
 have h2:=hw x
 rw[evalL_mulL] at h2
 rw[evalL_addL,evalL_mulL,evalL_mulL]
 have:(evalL u x*evalL r x+evalL v x*evalL w x)*evalL p x=(evalL u x*evalL p x)*evalL r x+evalL v x*(evalL w x*evalL p x):=by grind
 rw[this,←h2]
 have:evalL u x*evalL p x*evalL r x+evalL v x*(evalL q x*evalL r x)=(evalL u x*evalL p x+evalL v x*evalL q x)*evalL r x:=by grind
 rw[this,h1,Rat.one_mul]
theorem cancelL{t a b:List Rat}(ht:trimL t≠[])(h:∀x,evalL t x*evalL a x=evalL t x*evalL b x):∀x,evalL a x=evalL b x:=by
 have key:trimL (addL a (smulL (-1) b))=[]:=by
  refine Classical.byContradiction fun hne => ?_
  have h1:=coef_mul_top _ _ ht hne
  have h2:=eval_coef (p:=mulL (trimL t) (trimL (addL a (smulL (-1) b)))) (q:=[]) (fun x=>by
   rw[evalL_mulL,evalL_trimL,evalL_trimL,evalL_addL,evalL_smulL]
   have:=h x
   show _=(0:Rat)
   grind)
  rw[h2] at h1
  rcases Rat.mul_eq_zero.1 h1.symm with e|e
  ·exact top_ne (lastZ_trimL _) ht e
  ·exact top_ne (lastZ_trimL _) hne e
 intro x
 have:=evalL_trimL x (addL a (smulL (-1) b))
 rw[key,evalL_addL,evalL_smulL] at this
 have h0:(0:Rat)=evalL a x + -1*evalL b x:=this
 grind
theorem Dv.len{p q:List Rat}(h:Dv p q)(hp:lastZ p=false)(hq:lastZ q=false)(h0:q≠[]):p≠[]∧p.length≤q.length:=by
 obtain⟨u,hu⟩:=h
 have hpne:p≠[]:=by
  intro e
  subst e
  have:∀i,coef q i=coef [] i:=eval_coef (fun x=>by rw[hu];show _*(0:Rat)=0;rw[Rat.mul_zero])
  exact h0 (coef_inj hq rfl this)
 have hune:trimL u≠[]:=by
  intro e
  have:∀i,coef q i=coef [] i:=eval_coef (fun x=>by rw[hu,←evalL_trimL x u,e];show(0:Rat)*_=0;rw[Rat.zero_mul])
  exact h0 (coef_inj hq rfl this)
 refine⟨hpne,?_⟩
 have h1:=coef_mul_top _ p hune hpne
 have h2:=eval_coef (p:=mulL (trimL u) p) (q:=q) (fun x=>by rw[evalL_mulL,evalL_trimL,hu])
 rw[h2] at h1
 have h3:coef q ((trimL u).length+p.length-2)≠0:=by
  rw[h1]
  intro e
  rcases Rat.mul_eq_zero.1 e with e|e
  ·exact top_ne (lastZ_trimL _) hune e
  ·exact top_ne hp hpne e
 have:=top_of_coef h3
 have:=List.length_pos_iff.2 hune
 omega
theorem monic_dv{p:List Rat}(hz:lastZ p=false):Dv (monicL p) p:=by
 by_cases h:p=[]
 ·subst h;exact Dv.refl _
 ·refine⟨[topL p],fun x => ?_⟩
  rw[eval_c,monicL_eval]
  have:=Rat.div_mul_cancel (a:=1) (top_ne hz h)
  grind
theorem dv_monic(p:List Rat):Dv p (monicL p):=⟨[1/topL p],fun x=>by rw[eval_c,monicL_eval]⟩
theorem gcdF_bez:∀(n:Nat) (p q:List Rat),lastZ p=false→lastZ q=false→∃u v,∀x,evalL (gcdF n p q) x=evalL u x*evalL p x+evalL v x*evalL q x
 |0,p,q,_,_=>⟨[1],[],fun x=>by rw[eval_c];show _=_+(0:Rat)*_;rw[gcdF];grind⟩
 |n+1,p,q,hp,hq=>by
  rw[gcdF]
  by_cases h:q.length=0
  ·rw[beq_iff.2 h,cond_true]
   exact⟨[1],[],fun x=>by rw[eval_c];show _=_+(0:Rat)*_;grind⟩
  ·have hne:q≠[]:=fun e=>h (by rw[e];rfl)
   rw[beq_fal.2 h,cond_false]
   obtain⟨u,v,e⟩:=gcdF_bez n q (monicL (restL p q)) hq (monicL_trim _)
   obtain⟨g1,g2⟩:=divL_spec p hq hne
   refine⟨smulL (1/topL (restL p q)) v,addL u (smulL (-(1/topL (restL p q))) (mulL v (divL p q).1)),fun x => ?_⟩
   have h2:evalL (divL p q).1 x*evalL q x+evalL (restL p q) x=evalL p x:=g2 x
   rw[e x,monicL_eval,evalL_addL,evalL_smulL,evalL_smulL,evalL_mulL,←h2]
   grind
theorem gcdF_dv:∀(n:Nat) (p q:List Rat),lastZ p=false→lastZ q=false→q.length<n→Dv (gcdF n p q) p∧Dv (gcdF n p q) q
 |0,p,q,_,_,h=>by omega
 |n+1,p,q,hp,hq,hn=>by
  rw[gcdF]
  by_cases h:q.length=0
  ·rw[beq_iff.2 h,cond_true,List.eq_nil_of_length_eq_zero h]
   exact⟨Dv.refl p,[],fun x=>by show(0:Rat)=0*_;rw[Rat.zero_mul]⟩
  ·have hne:q≠[]:=fun e=>h (by rw[e];rfl)
   rw[beq_fal.2 h,cond_false]
   obtain⟨g1,g2⟩:=divL_spec p hq hne
   obtain⟨d1,d2⟩:=gcdF_dv n q (monicL (restL p q)) hq (monicL_trim _) (by rw[monicL_len (restL_trim _ _)];unfold restL;omega)
   have d3:=d2.trans (monic_dv (restL_trim p q))
   refine⟨?_,d1⟩
   obtain⟨a,ha⟩:=d1
   obtain⟨b,hb⟩:=d3
   refine⟨addL (mulL (divL p q).1 a) b,fun x => ?_⟩
   have h2:evalL (divL p q).1 x*evalL q x+evalL (restL p q) x=evalL p x:=g2 x
   rw[←h2,evalL_addL,evalL_mulL,hb x]
   have:=ha x
   rw[this];grind
theorem gcdL_bez(p q:List Rat)(hp:lastZ p=false)(hq:lastZ q=false):∃u v,∀x,evalL (gcdL p q) x=evalL u x*evalL p x+evalL v x*evalL q x:=by
 obtain⟨u,v,e⟩:=gcdF_bez (q.length+1) p q hp hq
 unfold gcdL
 refine⟨smulL (1/topL (gcdF (q.length+1) p q)) u,smulL (1/topL (gcdF (q.length+1) p q)) v,fun x => ?_⟩
 rw[monicL_eval,evalL_smulL,evalL_smulL,e x];grind
theorem gcdL_dv(p q:List Rat)(hp:lastZ p=false)(hq:lastZ q=false):Dv (gcdL p q) p∧Dv (gcdL p q) q:=by
 obtain⟨h1,h2⟩:=gcdF_dv (q.length+1) p q hp hq (Nat.lt_succ_self _)
 have h3:=monic_dv (gcdF_trim (q.length+1) p q hp hq)
 exact⟨h3.trans h1,h3.trans h2⟩
theorem monic_one{p:List Rat}(hz:lastZ p=false)(h:p.length=1):monicL p=[1]:=by
 have hne:p≠[]:=by intro e;rw[e] at h;cases h
 match p,h with
 |[a],_ =>
  have ha:a≠0:=top_ne hz hne
  rw[monicL_of hz hne]
  show[1/a*a]=[1]
  rw[Rat.div_mul_cancel ha]
theorem cop_of_gcd{p q:List Rat}(hp:lastZ p=false)(hq:lastZ q=false)(h:(gcdL p q).length=1):Cop p q:=by
 have e:gcdL p q=[1]:=by
  have h1:=monicL_idem (gcdF_trim (q.length+1) p q hp hq)
  have h2:=monic_one (gcdL_trim p q) h
  unfold gcdL at h2 ⊢
  rw[←h1,h2]
 obtain⟨u,v,b⟩:=gcdL_bez p q hp hq
 refine⟨u,v,fun x => ?_⟩
 rw[←b x,e,eval_c]
def dEv(p:List Rat)(x:Rat):Rat:=evalL (derI 1 (p.drop 1)) x
theorem dEv_derive(p:List Rat)(x:Rat):evalL (deriveL p) x=dEv p x:=evalL_deriveL p x
theorem derI_succ(x:Rat):∀(q:List Rat) (i:Nat),evalL (derI (i+1) q) x=evalL (derI i q) x+evalL q x
 |[],_=>by show(0:Rat)=0+0;grind
 |a::r,i=>by
  rw[derI,derI,evalL,evalL,evalL,derI_succ x r (i+1)]
  have:(((i+1:Nat):Int):Rat)=((i:Int):Rat)+1:=by simp
  rw[this];grind
theorem dEv_cons(a:Rat)(p:List Rat)(x:Rat):dEv (a::p) x=evalL p x+x*dEv p x:=by
 show evalL (derI 1 p) x=_
 rw[derI_succ x p 0]
 have:evalL (derI 0 p) x=x*dEv p x:=by
  cases p with
  |nil=>show(0:Rat)=x*0;rw[Rat.mul_zero]
  |cons b r =>
   show evalL (derI 1 r) x*x+((0:Nat):Int)*b=x*evalL (derI 1 r) x
   have:(((0:Nat):Int):Rat)=0:=rfl
   rw[this];grind
 rw[this];grind
theorem dEv_nil(x:Rat):dEv [] x=0:=rfl
theorem dEv_add(x:Rat):∀p q:List Rat,dEv (addL p q) x=dEv p x+dEv q x
 |[],q=>by rw[addL,dEv_nil,Rat.zero_add]
 |a::p,[]=>by rw[addL,dEv_nil,Rat.add_zero]
 |a::p,b::q=>by rw[addL,dEv_cons,dEv_cons,dEv_cons,evalL_addL,dEv_add x p q];grind
theorem dEv_smul(c x:Rat):∀p:List Rat,dEv (smulL c p) x=c*dEv p x
 |[]=>by show(0:Rat)=c*0;rw[Rat.mul_zero]
 |a::p=>by
  show dEv (c*a::smulL c p) x=_
  rw[dEv_cons,dEv_cons,evalL_smulL,dEv_smul c x p];grind
theorem dEv_mul(x:Rat)(q:List Rat):∀p:List Rat,dEv (mulL p q) x=dEv p x*evalL q x+evalL p x*dEv q x
 |[]=>by rw[mulL,dEv_nil];show(0:Rat)=0*_+0*_;grind
 |a::p=>by
  rw[mulL,dEv_add,dEv_smul,dEv_cons,dEv_cons,evalL_mulL,dEv_mul x q p,evalL];grind
theorem dEv_congr{p q:List Rat}(h:∀x,evalL p x=evalL q x)(x:Rat):dEv p x=dEv q x:=by
 rw[←dEv_derive,←dEv_derive]
 have:deriveL p=deriveL q:=by
  rw[←deriveL_trimL p,←deriveL_trimL q,eval_ext h]
 rw[this]
theorem dEv_pow(t:List Rat)(x:Rat):∀k,evalL t x*dEv (powL t k) x=((k:Int):Rat)*(evalL (powL t k) x*dEv t x)
 |0=>by
  have:dEv (powL t 0) x=0:=rfl
  rw[this]
  have:(((0:Nat):Int):Rat)=0:=rfl
  rw[this];grind
 |k+1=>by
  have ih:=dEv_pow t x k
  have:(((k+1:Nat):Int):Rat)=((k:Int):Rat)+1:=by simp
  rw[powL,dEv_mul,evalL_mulL,this]
  grind
theorem powL_ne{t:List Rat}(ht:trimL t≠[])(k:Nat):trimL (powL t k)≠[]:=by
 induction k with
 |zero=>rw[powL];decide
 |succ k ih =>
  intro e
  have h1:=coef_mul_top _ _ ih ht
  have h2:=eval_coef (p:=mulL (trimL (powL t k)) (trimL t)) (q:=[]) (fun x=>by
   rw[evalL_mulL,evalL_trimL,evalL_trimL,←evalL_mulL]
   show evalL (powL t (k+1)) x=_
   rw[←evalL_trimL,e])
  rw[h2] at h1
  rcases Rat.mul_eq_zero.1 h1.symm with e|e
  ·exact top_ne (lastZ_trimL _) ih e
  ·exact top_ne (lastZ_trimL _) ht e
theorem powL_len{t:List Rat}(hz:lastZ t=false)(h:2≤t.length)(k:Nat):k+1≤(trimL (powL t k)).length:=by
 have hne:t≠[]:=by intro e;rw[e] at h;simp at h
 have htr:=trimL_of hz
 induction k with
 |zero=>have:=List.length_pos_iff.2 (powL_ne (t:=t) (by rw[htr];exact hne) 0);omega
 |succ k ih =>
  have h1:=coef_mul_top _ t (powL_ne (t:=t) (by rw[htr];exact hne) k) hne
  have h2:coef (trimL (powL t (k+1))) ((trimL (powL t k)).length+t.length-2)≠0:=by
   rw[coef_trimL]
   have:=eval_coef (p:=powL t (k+1)) (q:=mulL (trimL (powL t k)) t) (fun x=>by rw[powL,evalL_mulL,evalL_mulL,evalL_trimL])
   rw[this,h1]
   intro e
   rcases Rat.mul_eq_zero.1 e with e|e
   ·exact top_ne (lastZ_trimL _) (powL_ne (t:=t) (by rw[htr];exact hne) k) e
   ·exact top_ne hz hne e
  have:=top_of_coef h2
  omega
theorem deriveL_lt2{p:List Rat}(h:p≠[]):(deriveL p).length<p.length:=by
 have h1:=len_trimL (derI 1 (p.drop 1))
 rw[derI_len,List.length_drop] at h1
 have:=List.length_pos_iff.2 h
 have h2:(deriveL p).length≤p.length-1:=h1
 omega
structure Sq (p g f w:List Rat):Prop where
 pe:∀x,evalL p x=evalL f x*evalL g x
 de:∀x,dEv p x=evalL w x*evalL g x
 g0:trimL g≠[]
 zg:lastZ g=false
 zf:lastZ f=false
 f0:f≠[]
 cop:Cop f w
theorem Sq.rel{p g f w:List Rat}(s:Sq p g f w)(x:Rat):evalL f x*dEv g x=evalL g x*(evalL w x-dEv f x):=by
 have h1:=dEv_congr (q:=mulL f g) (fun x=>by rw[s.pe,evalL_mulL]) x
 rw[dEv_mul,s.de] at h1
 grind
theorem sq_of{p:List Rat}(hz:lastZ p=false)(h0:p≠[]):∃w,Sq p (gcdL p (deriveL p)) (divL p (gcdL p (deriveL p))).1 w:=by
 have hg0:=gcdL_ne (deriveL p) hz (lastZ_deriveL p) h0
 have hgz:=gcdL_trim p (deriveL p)
 obtain⟨d1,d2⟩:=gcdL_dv p (deriveL p) hz (lastZ_deriveL p)
 obtain⟨u,hu⟩:=d1
 obtain⟨w,hw⟩:=d2
 have hdiv:=div_uniq (p:=p) (q:=gcdL p (deriveL p)) (a:=trimL u) (r:=[]) hgz hg0 (lastZ_trimL u) rfl (List.length_pos_iff.2 hg0) (fun x=>by
  rw[evalL_trimL,hu x];show _+(0:Rat)=_;rw[Rat.add_zero])
 have e1:(divL p (gcdL p (deriveL p))).1=trimL u:=by rw[hdiv]
 have hgt:trimL (gcdL p (deriveL p))≠[]:=by rw[trimL_of hgz];exact hg0
 refine⟨w,⟨fun x=>by rw[e1,evalL_trimL,hu x],fun x=>by rw[←dEv_derive,hw x],hgt,hgz,(divL_trim _ _).1,?_,?_⟩⟩
 ·rw[e1]
  intro e
  have:∀i,coef p i=coef [] i:=eval_coef (fun x=>by rw[hu,←evalL_trimL x u,e];show(0:Rat)*_=0;rw[Rat.zero_mul])
  exact h0 (coef_inj hz rfl this)
 ·obtain⟨a,b,hb⟩:=gcdL_bez p (deriveL p) hz (lastZ_deriveL p)
  refine⟨a,b,?_⟩
  have:=cancelL (t:=gcdL p (deriveL p)) (a:=addL (mulL a (divL p (gcdL p (deriveL p))).1) (mulL b w)) (b:=[1]) hgt (fun x=>by
   have h1:=hb x
   rw[eval_c,evalL_addL,evalL_mulL,evalL_mulL,e1,evalL_trimL]
   have h2:=hu x
   have h3:=hw x
   rw[h2,h3] at h1
   grind)
  intro x
  have h:=this x
  rw[evalL_addL,evalL_mulL,evalL_mulL,eval_c] at h
  exact h
theorem Sq.descent{p g f w t:List Rat}(s:Sq p g f w)(ht:trimL t≠[])(h1:Dv t f)(h2:∃v,∀x,dEv f x=evalL v x*evalL t x):∀k,∃r,∀x,evalL g x=evalL (powL t k) x*evalL r x
 |0=>⟨g,fun x=>by rw[powL,eval_c,Rat.one_mul]⟩
 |k+1=>by
  obtain⟨r,hr⟩:=s.descent ht h1 h2 k
  obtain⟨f1,hf1⟩:=h1
  obtain⟨v,hv⟩:=h2
  have key:∀x,evalL f1 x*(((k:Int):Rat)*dEv t x*evalL r x+evalL t x*dEv r x)=evalL r x*(evalL w x-dEv f x):=by
   have:=cancelL (t:=powL t k) (a:=mulL f1 (addL (smulL ((k:Int):Rat) (mulL (deriveL t) r)) (mulL t (deriveL r)))) (b:=mulL r (addL w (smulL (-1) (deriveL f)))) (powL_ne ht k) (fun x=>by
    rw[evalL_mulL,evalL_mulL,evalL_addL,evalL_addL,evalL_smulL,evalL_smulL,evalL_mulL,evalL_mulL,dEv_derive,dEv_derive,dEv_derive]
    have g1:=s.rel x
    have g2:=dEv_congr (q:=mulL (powL t k) r) (fun x=>by rw[hr,evalL_mulL]) x
    rw[dEv_mul] at g2
    have g3:=dEv_pow t x k
    have g4:=hr x
    have g5:=hf1 x
    rw[g4,g2,g5] at g1
    have:evalL f1 x*evalL t x*(dEv (powL t k) x*evalL r x+evalL (powL t k) x*dEv r x)=evalL f1 x*((evalL t x*dEv (powL t k) x)*evalL r x+evalL t x*evalL (powL t k) x*dEv r x):=by grind
    rw[this,g3] at g1
    grind)
   intro x
   have h:=this x
   rw[evalL_mulL,evalL_mulL,evalL_addL,evalL_addL,evalL_smulL,evalL_smulL,evalL_mulL,evalL_mulL,dEv_derive,dEv_derive,dEv_derive] at h
   grind
  have hd:Dv t (mulL w r):=by
   have h3:=fun x=>dEv_congr (q:=mulL f1 t) (fun x=>by rw[hf1,evalL_mulL]) x
   refine⟨addL (addL (smulL ((k:Int):Rat) (mulL r (addL v (smulL (-1) (deriveL f1))))) (mulL f1 (deriveL r))) (mulL r v),fun x => ?_⟩
   have k1:=key x
   have k2:=h3 x
   rw[dEv_mul,hv] at k2
   have k3:=hv x
   rw[evalL_mulL,evalL_addL,evalL_addL,evalL_smulL,evalL_mulL,evalL_addL,evalL_smulL,evalL_mulL,evalL_mulL,dEv_derive,dEv_derive]
   have k4:evalL f1 x*dEv t x=(evalL v x-dEv f1 x)*evalL t x:=by grind
   have k5:evalL f1 x*(((k:Int):Rat)*dEv t x*evalL r x)=((k:Int):Rat)*((evalL v x-dEv f1 x)*evalL t x)*evalL r x:=by rw[←k4];grind
   have k6:evalL w x*evalL r x=evalL f1 x*(((k:Int):Rat)*dEv t x*evalL r x)+evalL f1 x*(evalL t x*dEv r x)+evalL r x*dEv f x:=by grind
   rw[k6,k5,k3];grind
  obtain⟨r1,hr1⟩:=(s.cop.of_dv ⟨f1,hf1⟩).dv hd
  exact⟨r1,fun x=>by rw[hr,hr1,powL,evalL_mulL];grind⟩
theorem Sq.free{p g f w:List Rat}(s:Sq p g f w):Cop f (deriveL f):=by
 refine cop_of_gcd s.zf (lastZ_deriveL f) ?_
 have hne:=gcdL_ne (deriveL f) s.zf (lastZ_deriveL f) s.f0
 have hl:=List.length_pos_iff.2 hne
 refine Classical.byContradiction fun h => ?_
 have h2:2≤(gcdL f (deriveL f)).length:=by omega
 have hz:=gcdL_trim f (deriveL f)
 obtain⟨d1,d2⟩:=gcdL_dv f (deriveL f) s.zf (lastZ_deriveL f)
 obtain⟨v,hv⟩:=d2
 obtain⟨r,hr⟩:=s.descent (t:=gcdL f (deriveL f)) (by rw[trimL_of hz];exact hne) d1 ⟨v,fun x=>by rw[←dEv_derive,hv]⟩ g.length
 have hdv:Dv (trimL (powL (gcdL f (deriveL f)) g.length)) g:=⟨r,fun x=>by rw[evalL_trimL,hr];grind⟩
 have hg:g≠[]:=by intro e;exact s.g0 (by rw[e];rfl)
 have:=(hdv.len (lastZ_trimL _) s.zg hg).2
 have:=powL_len hz h2 g.length
 omega
theorem Sq.power{p g f w:List Rat}(s:Sq p g f w):∀(n i:Nat) (e r:List Rat),r.length≤n→lastZ r=false→(∀x,evalL g x=evalL e x*evalL r x)→Dv e (powL f i)→Dv g (powL f (i+n))
 |n,i,e,r,hl,hz,hg,hd=>by
  have up:∀m,Dv e (powL f (i+m)):=by
   intro m
   induction m with
   |zero=>exact hd
   |succ m ih =>
    obtain⟨u,hu⟩:=ih
    exact⟨mulL u f,fun x=>by show evalL (mulL (powL f (i+m)) f) x=_;rw[evalL_mulL,hu,evalL_mulL];grind⟩
  have hr0:r≠[]:=by
   intro e'
   have:∀i,coef g i=coef [] i:=eval_coef (fun x=>by rw[hg,e'];show _*(0:Rat)=0;rw[Rat.mul_zero])
   exact s.g0 (by rw[trimL_of s.zg];exact coef_inj s.zg rfl this)
  have hrl:=List.length_pos_iff.2 hr0
  by_cases h1:r.length=1
  ·match r,h1 with
   |[c],_ =>
    have hc:c≠0:=top_ne hz hr0
    obtain⟨u,hu⟩:=up n
    refine⟨smulL (1/c) u,fun x => ?_⟩
    have h2:=hg x
    rw[eval_c] at h2
    have h3:=Rat.div_mul_cancel (a:=1) hc
    rw[hu,evalL_smulL,h2];grind
  ·obtain⟨m,rfl⟩:∃m,n=m+1:=⟨n-1,by omega⟩
   have ht0:=gcdL_ne f hz s.zf hr0
   have htz:=gcdL_trim r f
   have htl:=List.length_pos_iff.2 ht0
   obtain⟨d1,d2⟩:=gcdL_dv r f hz s.zf
   have h2:2≤(gcdL r f).length:=by
    refine Classical.byContradiction fun hlt => ?_
    have hc:=cop_of_gcd hz s.zf (by omega:(gcdL r f).length=1)
    have hce:Cop r e:=((hc.pow i).symm.of_dv hd).symm
    have hrd:Dv r (mulL (mulL f e) (deriveL r)):=by
     refine⟨addL (mulL e (addL w (smulL (-1) (deriveL f)))) (smulL (-1) (mulL f (deriveL e))),fun x => ?_⟩
     have g1:=s.rel x
     have g2:=dEv_congr (q:=mulL e r) (fun x=>by rw[hg,evalL_mulL]) x
     rw[dEv_mul] at g2
     rw[g2,hg] at g1
     rw[evalL_mulL,evalL_mulL,evalL_addL,evalL_mulL,evalL_addL,evalL_smulL,evalL_smulL,evalL_mulL,dEv_derive,dEv_derive,dEv_derive]
     grind
    have hrr:=(hc.mul hce).dv hrd
    by_cases hd0:deriveL r=[]
    ·
     have key:∀i,coef (derI 1 (r.drop 1)) i=0:=by
      intro i
      have:=coef_trimL (derI 1 (r.drop 1)) i
      have e2:trimL (derI 1 (r.drop 1))=[]:=hd0
      rw[e2,coef_nil] at this
      exact this.symm
     have hc2:∀(q:List Rat) (i j:Nat),coef (derI i q) j=((i+j:Nat):Int)*coef q j:=by
      intro q
      induction q with
      |nil=>intro i j;show(0:Rat)=_*0;rw[Rat.mul_zero]
      |cons a q ih =>
       intro i j
       cases j with
       |zero=>rfl
       |succ j=>rw[derI,coef_succ,coef_succ,ih (i+1) j,show i+1+j=i+(j+1) from by omega]
     have hk:=key (r.length-2)
     rw[hc2] at hk
     have hdr:coef (r.drop 1) (r.length-2)=topL r:=by
      unfold topL
      rw[show r.length-1=(r.length-2)+1 from by omega]
      cases r with
      |nil=>rfl
      |cons a q=>rfl
     rw[hdr] at hk
     rcases Rat.mul_eq_zero.1 hk with h|h
     ·have:=Rat.intCast_inj.1 (show (((1+(r.length-2):Nat):Int):Rat)=((0:Int):Rat) from h)
      omega
     ·exact top_ne hz hr0 h
    ·have:=(hrr.len hz (lastZ_deriveL r) hd0).2
     have h3:=len_trimL (derI 1 (r.drop 1))
     rw[derI_len,List.length_drop] at h3
     have h4:(deriveL r).length≤r.length-1:=h3
     omega
   obtain⟨r1,hr1⟩:=d1
   have hz1:=lastZ_trimL r1
   have hl1:(trimL r1).length≤m:=by
    have hd1:Dv (trimL r1) r:=⟨gcdL r f,fun x=>by rw[evalL_trimL,hr1];grind⟩
    have hr1ne:=(hd1.len hz1 hz hr0).1
    have h5:=coef_mul_top _ _ hr1ne ht0
    have h6:=eval_coef (p:=mulL (trimL r1) (gcdL r f)) (q:=r) (fun x=>by rw[evalL_mulL,evalL_trimL,hr1])
    rw[h6] at h5
    have h7:coef r ((trimL r1).length+(gcdL r f).length-2)≠0:=by
     rw[h5]
     intro e'
     rcases Rat.mul_eq_zero.1 e' with e'|e'
     ·exact top_ne hz1 hr1ne e'
     ·exact top_ne htz ht0 e'
    have:=top_of_coef h7
    have:=List.length_pos_iff.2 hr1ne
    omega
   have:=s.power m (i+1) (mulL e (gcdL r f)) (trimL r1) hl1 hz1 (fun x=>by rw[hg,hr1,evalL_mulL,evalL_trimL];grind) (by
    obtain⟨u,hu⟩:=hd
    obtain⟨v,hv⟩:=d2
    refine⟨mulL u v,fun x => ?_⟩
    show evalL (mulL (powL f i) f) x=_
    rw[evalL_mulL,evalL_mulL,evalL_mulL,hu,hv];grind)
   rwa[show i+1+m=i+(m+1) from by omega] at this
 termination_by n=>n
theorem Sq.all{p g f w:List Rat}(s:Sq p g f w):Dv p (powL f (g.length+1)):=by
 obtain⟨u,hu⟩:=s.power g.length 0 [1] g (Nat.le_refl _) s.zg (fun x=>by rw[eval_c,Rat.one_mul]) ⟨[1],fun x=>by rw[powL,eval_c,Rat.one_mul]⟩
 rw[Nat.zero_add] at hu
 refine⟨u,fun x => ?_⟩
 rw[powL,evalL_mulL,hu,s.pe];grind
end Go.Proofs.YtjadajceekjeoaaGreatDoor.Sym
namespace Go.Proofs.YtjadajceekjeoaaGreatDoor.Sym
open Go Path CInt
set_option linter.unusedVariables false
def ab(x:Rat):Rat:=if 0≤x then x else -x
theorem ab_cases(x:Rat):(0≤x∧ab x=x)∨(x<0∧ab x = -x):=by
 unfold ab
 by_cases h:0≤x
 ·rw[if_pos h];exact Or.inl ⟨h,rfl⟩
 ·rw[if_neg h];exact Or.inr ⟨by grind,rfl⟩
theorem ab_nonneg(x:Rat):0≤ab x:=by rcases ab_cases x with h|h<;>grind
theorem ab_pos{x:Rat}(h:x≠0):0<ab x:=by rcases ab_cases x with h|h<;>grind
theorem ab_le{x c:Rat}(h1:x≤c)(h2 : -x≤c):ab x≤c:=by rcases ab_cases x with h|h<;>grind
theorem le_ab(x:Rat):x≤ab x:=by rcases ab_cases x with h|h<;>grind
theorem neg_le_ab(x:Rat) : -x≤ab x:=by rcases ab_cases x with h|h<;>grind
theorem ab_neg(x:Rat):ab (-x)=ab x:=by rcases ab_cases x with h|h<;>rcases ab_cases (-x) with k|k<;>grind
theorem ab_add(x y:Rat):ab (x+y)≤ab x+ab y:=by
 have h1:=le_ab x
 have h2:=neg_le_ab x
 have h3:=le_ab y
 have h4:=neg_le_ab y
 exact ab_le (by grind) (by grind)
theorem ab_mul(x y:Rat):ab (x*y)=ab x*ab y:=by
 rcases ab_cases x with ⟨h1,e1⟩|⟨h1,e1⟩<;>rcases ab_cases y with ⟨h2,e2⟩|⟨h2,e2⟩<;>rw[e1,e2]
 ·have:=Rat.mul_nonneg h1 h2
  rcases ab_cases (x*y) with h|h<;>grind
 ·have:=Rat.mul_nonneg h1 (show 0 ≤ -y by grind)
  rcases ab_cases (x*y) with h|h<;>grind
 ·have:=Rat.mul_nonneg (show 0 ≤ -x by grind) h2
  rcases ab_cases (x*y) with h|h<;>grind
 ·have:=Rat.mul_nonneg (show 0 ≤ -x by grind) (show 0 ≤ -y by grind)
  rcases ab_cases (x*y) with h|h<;>grind
theorem ab_zero:ab 0=0:=rfl
theorem mul_le_mul'{a b c d:Rat}(h1:a≤b)(h2:c≤d)(h3:0≤a)(h4:0≤d):a*c≤b*d :=
 Rat.le_trans (Rat.mul_le_mul_of_nonneg_left h2 h3) (Rat.mul_le_mul_of_nonneg_right h1 h4)
def nrm:List Rat→Rat→Rat
 |[],_=>0
 |a::r,R=>nrm r R*R+ab a
def lip:List Rat→Rat→Rat
 |[],_=>0
 |_::r,R=>lip r R*R+nrm r R
def sec:List Rat→Rat→Rat
 |[],_=>0
 |_::r,R=>sec r R*R+lip r R
theorem nrm_nonneg{R:Rat}(hR:0≤R):∀p,0≤nrm p R
 |[]=>Rat.le_refl
 |a::r=>by
  have h1:=Rat.mul_nonneg (nrm_nonneg hR r) hR
  have h2:=ab_nonneg a
  rw[nrm];grind
theorem lip_nonneg{R:Rat}(hR:0≤R):∀p,0≤lip p R
 |[]=>Rat.le_refl
 |a::r=>by
  have h1:=Rat.mul_nonneg (lip_nonneg hR r) hR
  have h2:=nrm_nonneg hR r
  rw[lip];grind
theorem sec_nonneg{R:Rat}(hR:0≤R):∀p,0≤sec p R
 |[]=>Rat.le_refl
 |a::r=>by
  have h1:=Rat.mul_nonneg (sec_nonneg hR r) hR
  have h2:=lip_nonneg hR r
  rw[sec];grind
theorem ab_eval{R x:Rat}(hx:ab x≤R):∀p,ab (evalL p x)≤nrm p R
 |[]=>Rat.le_refl
 |a::r=>by
  have h1:=ab_eval hx r
  have h2:=ab_add (evalL r x*x) a
  rw[ab_mul] at h2
  have h3:=mul_le_mul' h1 hx (ab_nonneg _) (Rat.le_trans (ab_nonneg x) hx)
  rw[evalL,nrm];grind
theorem ab_diff{R x y:Rat}(hx:ab x≤R)(hy:ab y≤R):∀p,ab (evalL p x-evalL p y)≤lip p R*ab (x-y)
 |[]=>by
  show ab (0-0)≤0*_
  rw[show (0:Rat)-0=0 from by grind,ab_zero,Rat.zero_mul];exact Rat.le_refl
 |a::r=>by
  have h0:=Rat.le_trans (ab_nonneg x) hx
  have h1:=ab_diff hx hy r
  have h2:=ab_eval hy r
  have e:evalL (a::r) x-evalL (a::r) y=(evalL r x-evalL r y)*x+evalL r y*(x-y):=by rw[evalL,evalL];grind
  rw[e]
  have h3:=ab_add ((evalL r x-evalL r y)*x) (evalL r y*(x-y))
  rw[ab_mul,ab_mul] at h3
  have h4:=mul_le_mul' h1 hx (ab_nonneg _) h0
  have h5:=Rat.mul_le_mul_of_nonneg_right h2 (ab_nonneg (x-y))
  rw[lip];grind
theorem ab_dEv{R x:Rat}(hx:ab x≤R):∀p,ab (dEv p x)≤lip p R
 |[]=>Rat.le_refl
 |a::r=>by
  have h1:=ab_dEv hx r
  have h2:=ab_eval hx r
  have h3:=ab_add (evalL r x) (x*dEv r x)
  rw[ab_mul] at h3
  have h4:=mul_le_mul' hx h1 (ab_nonneg _) (lip_nonneg (Rat.le_trans (ab_nonneg x) hx) r)
  rw[dEv_cons,lip];grind
def tay(x y:Rat):List Rat→Rat
 |[]=>0
 |_::r=>dEv r x+y*tay x y r
theorem tay_eq(x y:Rat):∀p,evalL p y=evalL p x+(y-x)*dEv p x+(y-x)*(y-x)*tay x y p
 |[]=>by show(0:Rat)=0+(y-x)*0+(y-x)*(y-x)*0;grind
 |a::r=>by
  have:=tay_eq x y r
  rw[evalL,evalL,dEv_cons,tay,this];grind
theorem ab_tay{R x y:Rat}(hx:ab x≤R)(hy:ab y≤R):∀p,ab (tay x y p)≤sec p R
 |[]=>Rat.le_refl
 |a::r=>by
  have h0:=Rat.le_trans (ab_nonneg x) hx
  have h1:=ab_tay hx hy r
  have h2:=ab_dEv hx r
  have h3:=ab_add (dEv r x) (y*tay x y r)
  rw[ab_mul] at h3
  have h4:=mul_le_mul' hy h1 (ab_nonneg _) (sec_nonneg h0 r)
  rw[tay,sec];grind
def sg(x:Rat):Int:=cmpR x 0
theorem sg_cases(x:Rat):(x<0∧sg x = -1)∨(x=0∧sg x=0)∨(0<x∧sg x=1):=by
 unfold sg cmpR
 by_cases h:x<0
 ·rw[if_pos h];exact Or.inl ⟨h,rfl⟩
 ·rw[if_neg h]
  by_cases h2:x=0
  ·rw[if_pos h2];exact Or.inr (Or.inl ⟨h2,rfl⟩)
  ·rw[if_neg h2];exact Or.inr (Or.inr ⟨by grind,rfl⟩)
def varS:Int→List Int→Int
 |_,[]=>0
 |l,s::r=>if s=0 then varS l r else (if s = -l then 1 else 0)+varS s r
def chg(G:List (List Rat))(x:Rat):Int:=varS 0 (G.map (fun g=>sg (evalL g x)))
inductive Par:Int→List (Int×Int)→Prop
 |nil (s:Int):Par s []
 |same {s t:Int} {l:List (Int×Int)} (ht:t=1∨t = -1) (h:Par t l):Par s ((t,t)::l)
 |mid {s a b:Int} {l:List (Int×Int)} (hs:s=1∨s = -1) (ha:a=0∨a=1∨a = -1) (hb:b=0∨b=1∨b = -1) (h:Par (-s) l):Par s ((a,b)::(-s, -s)::l)
theorem var_mid{s a:Int}(hs:s=1∨s = -1)(ha:a=0∨a=1∨a = -1)(l:List Int):varS s (a :: -s::l)=1+varS (-s) l:=by
 rcases hs with rfl|rfl<;>rcases ha with rfl|rfl|rfl<;>simp[varS]
theorem Par.eq{s:Int}{l:List (Int×Int)}(h:Par s l):varS s (l.map Prod.fst)=varS s (l.map Prod.snd):=by
 induction h with
 |nil s=>rfl
 |same ht h ih =>
  rw[List.map_cons,List.map_cons]
  rcases ht with rfl|rfl<;>simp[varS,ih]
 |mid hs ha hb h ih =>
  rw[List.map_cons,List.map_cons,List.map_cons,List.map_cons,var_mid hs ha,var_mid hs hb,ih]
def Lnk(Q κ x:Rat):List (List Rat)→Prop
 |[]=>False
 |[g]=>κ≤ab (evalL g x)
 |[g,h]=>κ≤ab (evalL h x)
 |g::h::k::r=>ab (evalL g x+evalL k x)≤Q*ab (evalL h x)∧Lnk Q κ x (h::k::r)
theorem Lnk.max{Q κ x η:Rat}(hQ:0≤Q)(hη:0<η):∀(r:List (List Rat)) (g h:List Rat) (N:Nat),Lnk Q κ x (g::h::r)→r.length≤N→(Q+1)^N*η≤κ→η≤ab (evalL g x)∨η≤ab (evalL h x)
 |[],g,h,N,hl,hN,hk=>by
  have hl:κ≤ab (evalL h x):=hl
  right
  have key:∀n:Nat,1≤(Q+1)^n:=by
   intro n
   induction n with
   |zero=>rw[Rat.pow_zero];exact Rat.le_refl
   |succ n ih =>
    rw[Rat.pow_succ]
    have:=Rat.mul_nonneg (show 0≤(Q+1)^n by grind) hQ
    grind
  have:=Rat.mul_le_mul_of_nonneg_right (key N) (Rat.le_of_lt hη)
  grind
 |k::r,g,h,N,hl,hN,hk=>by
  obtain⟨N,rfl⟩:∃m,N=m+1:=⟨N-1,by rw[List.length_cons] at hN;omega⟩
  have hl:ab (evalL g x+evalL k x)≤Q*ab (evalL h x)∧Lnk Q κ x (h::k::r):=hl
  obtain⟨h1,h2⟩:=hl
  have hη2:0<(Q+1)*η:=Rat.mul_pos (by grind) hη
  rcases Lnk.max hQ hη2 r h k N h2 (by rw[List.length_cons] at hN;omega) (by rw[Rat.pow_succ] at hk;grind) with e|e
  ·right
   have:=Rat.mul_nonneg hQ (Rat.le_of_lt hη)
   grind
  ·by_cases hh:η≤ab (evalL h x)
   ·exact Or.inr hh
   ·left
    have h3:=ab_add (evalL g x+evalL k x) (-(evalL g x))
    rw[ab_neg,show evalL g x+evalL k x + -(evalL g x)=evalL k x from by grind] at h3
    have h4:=Rat.mul_le_mul_of_nonneg_left (show ab (evalL h x)≤η by grind) hQ
    grind
def Big(ε u v:Rat)(g:List Rat)(s:Int):Prop:=∀x,u≤x→x≤v→sg (evalL g x)=s∧ε≤ab (evalL g x)
def Small(ε u v:Rat)(g:List Rat):Prop:=∀x,u≤x→x≤v→ab (evalL g x)<2*ε
theorem ab_between{x u v R:Rat}(h1:u≤x)(h2:x≤v)(hu:ab u≤R)(hv:ab v≤R):ab x≤R:=by
 have a:=neg_le_ab u
 have b:=le_ab v
 exact ab_le (by grind) (by grind)
theorem big_or_small{R L ε u v:Rat}(g:List Rat)(hu:ab u≤R)(hv:ab v≤R)(huv:u≤v)(hL:lip g R≤L)(hε:0<ε)(hd:L*(v-u)≤ε):(∃s,(s=1∨s = -1)∧Big ε u v g s)∨Small ε u v g:=by
 have var:∀x y,u≤x→x≤v→u≤y→y≤v→ab (evalL g x-evalL g y)≤ε:=by
  intro x y h1 h2 h3 h4
  have d:=ab_diff (ab_between h1 h2 hu hv) (ab_between h3 h4 hu hv) g
  have hR:=Rat.le_trans (ab_nonneg u) hu
  have hxy:ab (x-y)≤v-u:=ab_le (by grind) (by grind)
  have:=mul_le_mul' hL hxy (lip_nonneg hR g) (by grind)
  grind
 by_cases hs:∃x,u≤x∧x≤v∧ab (evalL g x)<ε
 ·right
  obtain⟨x,h1,h2,h3⟩:=hs
  intro y h4 h5
  have:=var y x h4 h5 h1 h2
  have:=ab_add (evalL g y-evalL g x) (evalL g x)
  rw[show evalL g y-evalL g x+evalL g x=evalL g y from by grind] at this
  grind
 ·left
  have hb:∀x,u≤x→x≤v→ε≤ab (evalL g x):=fun x h1 h2=>by
   refine Rat.not_lt.1 fun h=>hs ⟨x,h1,h2,h⟩
  have h0:=hb u Rat.le_refl huv
  rcases sg_cases (evalL g u) with ⟨k1,k2⟩|⟨k1,k2⟩|⟨k1,k2⟩
  ·refine⟨-1,Or.inr rfl,fun x h1 h2=>⟨?_,hb x h1 h2⟩⟩
   have v1:=var x u h1 h2 Rat.le_refl huv
   have v2:=hb x h1 h2
   have v3:=le_ab (evalL g x-evalL g u)
   rcases ab_cases (evalL g u) with c|c
   ·grind
   ·rcases sg_cases (evalL g x) with ⟨m1,m2⟩|⟨m1,m2⟩|⟨m1,m2⟩
    ·exact m2
    ·rw[m1,ab_zero] at v2;grind
    ·rcases ab_cases (evalL g x) with c2|c2<;>grind
  ·rw[k1,ab_zero] at h0;grind
  ·refine⟨1,Or.inl rfl,fun x h1 h2=>⟨?_,hb x h1 h2⟩⟩
   have v1:=var u x Rat.le_refl huv h1 h2
   have v2:=hb x h1 h2
   have v3:=le_ab (evalL g u-evalL g x)
   rcases ab_cases (evalL g u) with c|c
   ·rcases sg_cases (evalL g x) with ⟨m1,m2⟩|⟨m1,m2⟩|⟨m1,m2⟩
    ·rcases ab_cases (evalL g x) with c2|c2<;>grind
    ·rw[m1,ab_zero] at v2;grind
    ·exact m2
   ·grind
theorem sg_three(x:Rat):sg x=0∨sg x=1∨sg x = -1:=by rcases sg_cases x with h|h|h<;>simp[h.2]
theorem sg_opp{a b η:Rat}{s:Int}(ha:η≤ab a)(hs:sg a=s)(h:ab (a+b)<η):sg b = -s:=by
 have h1:=le_ab (a+b)
 have h2:=neg_le_ab (a+b)
 rcases sg_cases a with ⟨k1,k2⟩|⟨k1,k2⟩|⟨k1,k2⟩<;>rcases sg_cases b with ⟨m1,m2⟩|⟨m1,m2⟩|⟨m1,m2⟩<;>rcases ab_cases a with c|c<;>first|(subst hs;simp[k2,m2];done)|(exfalso;grind)
theorem par_of{R L Q κ η ε u v:Rat}(hu:ab u≤R)(hv:ab v≤R)(huv:u≤v)(hQ:0≤Q)(hη:0<η)(hε:0<ε)(h2ε:2*ε≤η)(hQε:Q*(2*ε)<η)(hd:L*(v-u)≤ε){N:Nat}(hN:(Q+1)^N*η≤κ) :
  ∀(n:Nat) (r:List (List Rat)) (g:List Rat) (s:Int),r.length≤n→n≤N→(∀h∈r,lip h R≤L)→(s=1∨s = -1)→Big ε u v g s→(∀x,u≤x→x≤v→Lnk Q κ x (g::r))→Par s (r.map (fun h=>(sg (evalL h u),sg (evalL h v))))
 |n,[],g,s,_,_,_,_,_,_ => .nil s
 |0,h::r,g,s,hn,_,_,_,_,_=>by simp at hn
 |n+1,h::r,g,s,hn,hnN,hlip,hs,hg,hl=>by
  rw[List.length_cons] at hn
  have hlnk:∀x,u≤x→x≤v→Lnk Q κ x (h::r):=fun x h1 h2=>by
   have:=hl x h1 h2
   cases r with
   |nil=>exact this
   |cons k r=>exact this.2
  have hmax:∀x,u≤x→x≤v→η≤ab (evalL g x)∨η≤ab (evalL h x):=fun x h1 h2=>Lnk.max hQ hη r g h N (hl x h1 h2) (by omega) hN
  rw[List.map_cons]
  rcases big_or_small h hu hv huv (hlip h (List.mem_cons_self ..)) hε hd with ⟨t,ht,hb⟩|hsm
  ·rw[(hb u Rat.le_refl huv).1,(hb v huv Rat.le_refl).1]
   exact .same ht (par_of hu hv huv hQ hη hε h2ε hQε hd hN n r h t (by omega) (by omega) (fun k hk=>hlip k (List.mem_cons_of_mem _ hk)) ht hb hlnk)
  ·cases r with
   |nil =>
    exfalso
    have h1:κ≤ab (evalL h u):=hl u Rat.le_refl huv
    have h2:=hsm u Rat.le_refl huv
    have key:∀n:Nat,1≤(Q+1)^n:=by
     intro n
     induction n with
     |zero=>rw[Rat.pow_zero];exact Rat.le_refl
     |succ n ih =>
      rw[Rat.pow_succ]
      have:=Rat.mul_nonneg (show 0≤(Q+1)^n by grind) hQ
      grind
    have:=Rat.mul_le_mul_of_nonneg_right (key N) (Rat.le_of_lt hη)
    grind
   |cons k r =>
    rw[List.length_cons] at hn
    obtain⟨m,rfl⟩:∃m,n=m+1:=⟨n-1,by omega⟩
    have hk:Big ε u v k (-s):=by
     intro x h1 h2
     obtain⟨e1,e2⟩:=hg x h1 h2
     have e3:=hsm x h1 h2
     have e4:η≤ab (evalL g x):=by rcases hmax x h1 h2 with e|e;exact e;grind
     have e5:ab (evalL g x+evalL k x)≤Q*ab (evalL h x):=(hl x h1 h2).1
     have e6:=Rat.mul_le_mul_of_nonneg_left (Rat.le_of_lt e3) hQ
     have e7:η≤ab (evalL h x)∨η≤ab (evalL k x):=Lnk.max hQ hη r h k N (hlnk x h1 h2) (by omega) hN
     refine⟨sg_opp e4 e1 (by grind),?_⟩
     rcases e7 with e|e<;>grind
    rw[List.map_cons,(hk u Rat.le_refl huv).1,(hk v huv Rat.le_refl).1]
    refine .mid hs (sg_three _) (sg_three _) (par_of hu hv huv hQ hη hε h2ε hQε hd hN m r k (-s) (by omega) (by omega) (fun k' hk'=>hlip k' (List.mem_cons_of_mem _ (List.mem_cons_of_mem _ hk'))) (by omega) hk ?_)
    intro x h1 h2
    have:=hlnk x h1 h2
    cases r with
    |nil=>exact this
    |cons k' r=>exact this.2
end Go.Proofs.YtjadajceekjeoaaGreatDoor.Sym
namespace Go.Proofs.YtjadajceekjeoaaGreatDoor.Sym
open Go Path CInt
set_option linter.unusedVariables false
def chainF:Nat→List Rat→List Rat→List (List Rat)
 |0,p,_=>[p]
 |n+1,p,d=>bif Nat.beq d.length 0 then [p] else p::chainF n d (trimL (smulL (-1) (restL p d)))
def chainL(p:List Rat):List (List Rat):=chainF (freeL p).length (freeL p) (deriveL (freeL p))
theorem chainF_nil(n:Nat)(p:List Rat):chainF n p []=[p]:=by cases n<;>rfl
theorem chainF_cons{n:Nat}{p d:List Rat}(h:d≠[]):chainF (n+1) p d=p::chainF n d (trimL (smulL (-1) (restL p d))):=by
 rw[chainF,beq_fal.2 (fun e=>h (List.eq_nil_of_length_eq_zero e)),cond_false]
theorem chainF_head(n:Nat)(p d:List Rat):∃r,chainF n p d=p::r:=by
 cases n with
 |zero=>exact⟨[],rfl⟩
 |succ n =>
  rw[chainF]
  cases Nat.beq d.length 0 with
  |true=>exact⟨[],rfl⟩
  |false=>exact⟨_,rfl⟩
theorem chainF_len:∀(n:Nat) (p d:List Rat),(chainF n p d).length≤n+1
 |0,p,d=>by simp[chainF]
 |n+1,p,d=>by
  rw[chainF]
  cases Nat.beq d.length 0 with
  |true=>simp
  |false=>rw[cond_false,List.length_cons];have:=chainF_len n d (trimL (smulL (-1) (restL p d)));omega
theorem Lnk.mono{Q Q' κ κ' x:Rat}(hQ:Q≤Q')(hκ:κ'≤κ):∀(G:List (List Rat)),Lnk Q κ x G→Lnk Q' κ' x G
 |[],h=>h
 |[g],h=>Rat.le_trans hκ h
 |[g,k],h=>Rat.le_trans hκ h
 |g::h::k::r,hl=>⟨Rat.le_trans hl.1 (Rat.mul_le_mul_of_nonneg_right hQ (ab_nonneg _)),Lnk.mono hQ hκ (h::k::r) hl.2⟩
theorem rest_neg_eval{p d:List Rat}(hd:lastZ d=false)(h0:d≠[])(x:Rat):evalL p x+evalL (trimL (smulL (-1) (restL p d))) x=evalL (divL p d).1 x*evalL d x:=by
 have h:evalL (divL p d).1 x*evalL d x+evalL (restL p d) x=evalL p x:=(divL_spec p hd h0).2 x
 rw[evalL_trimL,evalL_smulL];grind
theorem rest_neg_len{p d:List Rat}(hd:lastZ d=false)(h0:d≠[]):(trimL (smulL (-1) (restL p d))).length<d.length:=by
 have h:=(divL_spec p hd h0).1
 have h1:=len_trimL (smulL (-1) (restL p d))
 rw[len_smulL] at h1
 have:(restL p d).length<d.length:=h
 omega
theorem cop_next{p d:List Rat}(hd:lastZ d=false)(h0:d≠[])(h:Cop p d):Cop d (trimL (smulL (-1) (restL p d))):=by
 obtain⟨u,v,e⟩:=h
 refine⟨addL (mulL u (divL p d).1) v,smulL (-1) u,fun x => ?_⟩
 have h1:=e x
 have h2:=rest_neg_eval (p:=p) hd h0 x
 have h3:evalL p x=evalL (divL p d).1 x*evalL d x-evalL (trimL (smulL (-1) (restL p d))) x:=by grind
 rw[evalL_addL,evalL_mulL,evalL_smulL]
 rw[h3] at h1
 grind
theorem cop_last{p d:List Rat}(hd:lastZ d=false)(h0:d≠[])(h:Cop p d)(hr:trimL (smulL (-1) (restL p d))=[]):∃c,d=[c]∧c≠0:=by
 obtain⟨u,v,e⟩:=h
 have hdv:Dv d [1]:=⟨addL (mulL u (divL p d).1) v,fun x=>by
  have h1:=e x
  have h2:=rest_neg_eval (p:=p) hd h0 x
  rw[hr] at h2
  have h2:evalL p x+0=evalL (divL p d).1 x*evalL d x:=h2
  rw[eval_c,evalL_addL,evalL_mulL]
  have h3:evalL p x=evalL (divL p d).1 x*evalL d x:=by grind
  rw[h3] at h1
  grind⟩
 obtain⟨g1,g2⟩:=hdv.len hd rfl (by simp)
 have g2:d.length≤1:=g2
 match d,g1,g2 with
 |[c],g1,_=>exact⟨c,rfl,top_ne hd g1⟩
theorem lnk_exists{R:Rat}(hR:0≤R):∀(n:Nat) (p d:List Rat),lastZ p=false→lastZ d=false→d≠[]→Cop p d→d.length<n+1→∃Q κ,0≤Q∧0<κ∧∀x,ab x≤R→Lnk Q κ x (chainF n p d)
 |0,p,d,_,_,h0,_,hl=>absurd (List.eq_nil_of_length_eq_zero (by omega)) h0
 |n+1,p,d,hp,hd,h0,hc,hl=>by
  rw[chainF_cons h0]
  by_cases hr:trimL (smulL (-1) (restL p d))=[]
  ·obtain⟨c,rfl,hc0⟩:=cop_last hd h0 hc hr
   rw[hr,chainF_nil]
   refine⟨0,ab c,Rat.le_refl,ab_pos hc0,fun x _ => ?_⟩
   show ab c≤ab (evalL [c] x)
   rw[eval_c];exact Rat.le_refl
  ·have hln:=rest_neg_len (p:=p) hd h0
   obtain⟨Q,κ,h1,h2,h3⟩:=lnk_exists hR n d (trimL (smulL (-1) (restL p d))) hd (lastZ_trimL _) hr (cop_next hd h0 hc) (by omega)
   have hn:=nrm_nonneg hR (divL p d).1
   refine⟨Q+nrm (divL p d).1 R,κ,by grind,h2,fun x hx => ?_⟩
   have h4:=(h3 x hx).mono (show Q≤Q+nrm (divL p d).1 R by grind) (Rat.le_refl (a:=κ))
   obtain⟨m,rfl⟩:∃m,n=m+1:=⟨n-1,by
    have:=List.length_pos_iff.2 hr
    omega⟩
   rw[chainF_cons hr] at h4 ⊢
   obtain⟨r,e⟩:=chainF_head m (trimL (smulL (-1) (restL p d))) (trimL (smulL (-1) (restL d (trimL (smulL (-1) (restL p d))))))
   rw[e] at h4 ⊢
   refine⟨?_,h4⟩
   rw[rest_neg_eval hd h0,ab_mul]
   have h5:=ab_eval hx (divL p d).1
   exact Rat.mul_le_mul_of_nonneg_right (by grind) (ab_nonneg _)
def lipA(R:Rat):List (List Rat)→Rat
 |[]=>0
 |g::r=>lip g R+lipA R r
theorem lipA_nonneg{R:Rat}(hR:0≤R):∀G,0≤lipA R G
 |[]=>Rat.le_refl
 |g::r=>by
  have h1:=lip_nonneg hR g
  have h2:=lipA_nonneg hR r
  rw[lipA];grind
theorem lip_le{R:Rat}(hR:0≤R):∀(G:List (List Rat)) (g:List Rat),g∈G→lip g R≤lipA R G
 |[],g,h=>by cases h
 |a::r,g,h=>by
  have h1:=lip_nonneg hR a
  have h2:=lipA_nonneg hR r
  rw[lipA]
  rcases List.mem_cons.1 h with e|h
  ·rw[e];grind
  ·have:=lip_le hR r g h
   grind
def Loc(f:List Rat)(G:List (List Rat))(ε u v:Rat):Prop :=
 ((∃s,(s=1∨s = -1)∧Big ε u v f s)∧chg G u=chg G v) ∨
 (∃s:Int,(s=1∨s = -1)∧(∀x y,u≤x→x<y→y≤v→0<(s:Rat)*(evalL f y-evalL f x))∧chg G u+(if sg (evalL f v) = -s then 1 else 0)=chg G v+(if sg (evalL f u) = -s then 1 else 0))
theorem mono_of{R ε δ u v:Rat}{f:List Rat}{s:Int}(hu:ab u≤R)(hv:ab v≤R)(hs:s=1∨s = -1)(hb:Big ε u v (deriveL f) s)(hε:0<ε)(hd:sec f R*(v-u)<ε):∀x y,u≤x→x<y→y≤v→0<(s:Rat)*(evalL f y-evalL f x):=by
 intro x y h1 h2 h3
 have hx:=ab_between (x:=x) h1 (by grind) hu hv
 have hy:=ab_between (x:=y) (by grind) h3 hu hv
 have hR:=Rat.le_trans (ab_nonneg u) hu
 have t:=tay_eq x y f
 have ht:=ab_tay hx hy f
 obtain⟨b1,b2⟩:=hb x h1 (by grind)
 rw[dEv_derive] at b1 b2
 have hw:ab ((y-x)*tay x y f)<ε:=by
  rw[ab_mul]
  have e:ab (y-x)=y-x:=by rcases ab_cases (y-x) with h|h<;>grind
  rw[e]
  have h4:=mul_le_mul' (show y-x≤v-u by grind) ht (by grind) (sec_nonneg hR f)
  grind
 have e:evalL f y-evalL f x=(y-x)*(dEv f x+(y-x)*tay x y f):=by rw[t];grind
 rw[e]
 have w1:=le_ab ((y-x)*tay x y f)
 have w2:=neg_le_ab ((y-x)*tay x y f)
 have hpos:0<(s:Rat)*(dEv f x+(y-x)*tay x y f):=by
  rcases hs with rfl|rfl
  ·rcases sg_cases (dEv f x) with ⟨k1,k2⟩|⟨k1,k2⟩|⟨k1,k2⟩
   ·rw[k2] at b1;cases b1
   ·rw[k2] at b1;cases b1
   ·have:(((1:Int):Rat))=1:=rfl
    rw[this,Rat.one_mul]
    rcases ab_cases (dEv f x) with c|c<;>grind
  ·rcases sg_cases (dEv f x) with ⟨k1,k2⟩|⟨k1,k2⟩|⟨k1,k2⟩
   ·have:(((-1:Int):Rat)) = -1:=rfl
    rw[this]
    rcases ab_cases (dEv f x) with c|c<;>grind
   ·rw[k2] at b1;cases b1
   ·rw[k2] at b1;cases b1
 have:=Rat.mul_pos (show 0<y-x by grind) hpos
 grind
theorem chg_eq{ε u v:Rat}{f:List Rat}{r:List (List Rat)}{s:Int}(hb:Big ε u v f s)(huv:u≤v)(hp:Par s (r.map (fun h=>(sg (evalL h u),sg (evalL h v))))):varS 0 (sg (evalL f u)::r.map (fun g=>sg (evalL g u)))=varS 0 (sg (evalL f v)::r.map (fun g=>sg (evalL g v))):=by
 have e:=hp.eq
 rw[List.map_map,List.map_map] at e
 have e:varS s (r.map (fun h=>sg (evalL h u)))=varS s (r.map (fun h=>sg (evalL h v))):=e
 rw[(hb u Rat.le_refl huv).1,(hb v huv Rat.le_refl).1,varS,varS,e]
 split
 ·have e2:s=0:=by assumption
  rw[e2] at e;rw[e]
 ·rfl
theorem chg_step{s a b:Int}{l m:List Int}(hs:s=1∨s = -1)(ha:a=0∨a=1∨a = -1)(hb:b=0∨b=1∨b = -1)(e:varS s l=varS s m):varS 0 (a::s::l)+(if b = -s then 1 else 0)=varS 0 (b::s::m)+(if a = -s then 1 else 0):=by
 rcases hs with rfl|rfl<;>rcases ha with rfl|rfl|rfl<;>rcases hb with rfl|rfl|rfl<;>simp[varS,e]<;>omega
theorem loc_of{R Q κ η ε:Rat}{f:List Rat}{n:Nat}(h2:deriveL f≠[])(hR:0≤R)(hQ:0≤Q)(hη:0<η)(hε:0<ε)(h2ε:2*ε≤η)(hQε:Q*(2*ε)<η)(hN:(Q+1)^(n+1)*η≤κ)
  (hl:∀x,ab x≤R→Lnk Q κ x (chainF (n+1) f (deriveL f))) {u v:Rat} (hu:ab u≤R) (hv:ab v≤R) (huv:u≤v) (hd1:lipA R (chainF (n+1) f (deriveL f))*(v-u)≤ε) (hd2:sec f R*(v-u)<ε):Loc f (chainF (n+1) f (deriveL f)) ε u v:=by
 have hlen:=chainF_len n (deriveL f) (trimL (smulL (-1) (restL f (deriveL f))))
 rw[chainF_cons h2] at hl hd1 ⊢
 obtain⟨r,e⟩:=chainF_head n (deriveL f) (trimL (smulL (-1) (restL f (deriveL f))))
 rw[e] at hl hd1 hlen ⊢
 rw[List.length_cons] at hlen
 have hlip:=lip_le hR (f::deriveL f::r)
 have hl':∀x,u≤x→x≤v→Lnk Q κ x (f::deriveL f::r):=fun x h1 h2=>hl x (ab_between h1 h2 hu hv)
 rcases big_or_small f hu hv huv (hlip f (List.mem_cons_self ..)) hε hd1 with ⟨s,hs,hb⟩|hsm
 ·left
  refine⟨⟨s,hs,hb⟩,?_⟩
  have:=par_of hu hv huv hQ hη hε h2ε hQε hd1 hN (n+1) (deriveL f::r) f s (by rw[List.length_cons];omega) (Nat.le_refl _) (fun h hh=>hlip h (List.mem_cons_of_mem _ hh)) hs hb hl'
  exact chg_eq hb huv this
 ·right
  rcases big_or_small (deriveL f) hu hv huv (hlip (deriveL f) (List.mem_cons_of_mem _ (List.mem_cons_self ..))) hε hd1 with ⟨s,hs,hb⟩|hsm2
  ·refine⟨s,hs,mono_of (δ:=0) hu hv hs hb hε hd2,?_⟩
   have hp:=par_of hu hv huv hQ hη hε h2ε hQε hd1 hN (n+1) r (deriveL f) s (by omega) (Nat.le_refl _) (fun h hh=>hlip h (List.mem_cons_of_mem _ (List.mem_cons_of_mem _ hh))) hs hb (fun x h1 h2=>by
    have:=hl' x h1 h2
    cases r with
    |nil=>exact this
    |cons k r=>exact this.2)
   have e1:=hp.eq
   rw[List.map_map,List.map_map] at e1
   have e1:varS s (r.map (fun h=>sg (evalL h u)))=varS s (r.map (fun h=>sg (evalL h v))):=e1
   show varS 0 (sg (evalL f u)::sg (evalL (deriveL f) u)::r.map (fun g=>sg (evalL g u)))+_=varS 0 (sg (evalL f v)::sg (evalL (deriveL f) v)::r.map (fun g=>sg (evalL g v)))+_
   rw[(hb u Rat.le_refl huv).1,(hb v huv Rat.le_refl).1]
   exact chg_step hs (sg_three _) (sg_three _) e1
  ·exfalso
   have h3:=hsm u Rat.le_refl huv
   have h4:=hsm2 u Rat.le_refl huv
   rcases Lnk.max hQ hη r f (deriveL f) (n+1) (hl' u Rat.le_refl huv) (by omega) hN with h|h<;>grind
theorem pow_pos'{a:Rat}(h:0<a):∀n:Nat,0<a^n
 |0=>by rw[Rat.pow_zero];decide
 |n+1=>by rw[Rat.pow_succ];exact Rat.mul_pos (pow_pos' h n) h
theorem div_pos'{a b:Rat}(ha:0<a)(hb:0<b):0<a/b:=by
 refine Rat.not_le.1 fun h => ?_
 have h1:=Rat.mul_nonneg (show 0 ≤ -(a/b) by grind) (Rat.le_of_lt hb)
 have h2:=Rat.div_mul_cancel (a:=a) (b:=b) (by grind)
 grind
theorem loc_exists{f:List Rat}{R:Rat}(hz:lastZ f=false)(h2:deriveL f≠[])(hf:f≠[])(hc:Cop f (deriveL f))(hR:0≤R):∃δ ε,0<δ∧0<ε∧∀u v,ab u≤R→ab v≤R→u≤v→v-u≤δ→Loc f (chainF f.length f (deriveL f)) ε u v:=by
 have hlt:=deriveL_lt2 hf
 obtain⟨n,hn⟩:∃n,f.length=n+1:=⟨f.length-1,by have:=List.length_pos_iff.2 hf;omega⟩
 rw[hn]
 obtain⟨Q,κ,hQ,hκ,hl⟩:=lnk_exists hR (n+1) f (deriveL f) hz (lastZ_deriveL f) h2 hc (by omega)
 have hp:=pow_pos' (show 0<Q+1 by grind) (n+1)
 have hη:=div_pos' hκ hp
 have hηe:=Rat.div_mul_cancel (a:=κ) (b:=(Q+1)^(n+1)) (by grind)
 generalize κ/(Q+1)^(n+1)=η at hη hηe
 have hε:=div_pos' hη (show 0<2*(Q+2) by grind)
 have hεe:=Rat.div_mul_cancel (a:=η) (b:=2*(Q+2)) (by grind)
 generalize η/(2*(Q+2))=ε at hε hεe
 have hQε0:=Rat.mul_nonneg hQ (Rat.le_of_lt hε)
 have hL:=lipA_nonneg hR (chainF (n+1) f (deriveL f))
 have hS:=sec_nonneg hR f
 have hδ:=div_pos' hε (show 0<lipA R (chainF (n+1) f (deriveL f))+sec f R+1 by grind)
 have hδe:=Rat.div_mul_cancel (a:=ε) (b:=lipA R (chainF (n+1) f (deriveL f))+sec f R+1) (by grind)
 generalize ε/(lipA R (chainF (n+1) f (deriveL f))+sec f R+1)=δ at hδ hδe
 refine⟨δ,ε,hδ,hε,fun u v hu hv huv hw => ?_⟩
 have w1:=Rat.mul_le_mul_of_nonneg_left hw hL
 have w2:=Rat.mul_le_mul_of_nonneg_left hw hS
 have w3:=Rat.mul_nonneg hL (Rat.le_of_lt hδ)
 have w4:=Rat.mul_nonneg hS (Rat.le_of_lt hδ)
 exact loc_of h2 hR hQ hη hε (by grind) (by grind) (by grind) hl hu hv huv (by grind) (by grind)
theorem subdiv{P:Rat→Rat→Prop}{a b δ:Rat}(hδ:0<δ)(hab:a≤b)(hs:∀u v,a≤u→u≤v→v≤b→v-u≤δ→P u v)(ht:∀u v w,a≤u→u≤v→v≤w→w≤b→P u v→P v w→P u w):P a b:=by
 have key:∀(n:Nat) (c:Rat),a≤c→c≤b→c-a≤((n:Int):Rat)*δ→P a c:=by
  intro n
  induction n with
  |zero =>
   intro c h1 h2 h3
   have:(((0:Nat):Int):Rat)=0:=rfl
   rw[this,Rat.zero_mul] at h3
   exact hs a c Rat.le_refl h1 h2 (by grind)
  |succ n ih =>
   intro c h1 h2 h3
   have e:(((n+1:Nat):Int):Rat)=((n:Int):Rat)+1:=by simp
   rw[e] at h3
   by_cases h:c-δ≤a
   ·exact hs a c Rat.le_refl h1 h2 (by grind)
   ·have:=ih (c-δ) (by grind) (by grind) (by grind)
    exact ht a (c-δ) c Rat.le_refl (by grind) (by grind) h2 this (hs (c-δ) c (by grind) (by grind) h2 (by grind))
 have hx:=Rat.lt_floor_add_one ((b-a)/δ)
 have he:=Rat.div_mul_cancel (a:=b-a) (b:=δ) (by grind)
 have hfl:0≤((b-a)/δ).floor:=by
  refine Rat.le_floor_iff.2 ?_
  show(0:Rat)≤_
  refine Rat.not_lt.1 fun h => ?_
  have:=Rat.mul_pos (show 0 < -((b-a)/δ) by grind) hδ
  grind
 obtain⟨n,hn⟩:∃n:Nat,((b-a)/δ).floor+1=(n:Int):=⟨(((b-a)/δ).floor+1).toNat,by omega⟩
 rw[hn] at hx
 refine key n b hab Rat.le_refl ?_
 have:=Rat.mul_le_mul_of_nonneg_right (Rat.le_of_lt hx) (Rat.le_of_lt hδ)
 grind
end Go.Proofs.YtjadajceekjeoaaGreatDoor.Sym
namespace Go.Proofs.YtjadajceekjeoaaGreatDoor.Sym
open Go Path CInt
set_option linter.unusedVariables false
def Away(p:List Rat)(lo hi:Rat):Prop:=∃c,0<c∧∀x,lo≤x→x≤hi→c≤ab (evalL p x)
theorem Loc.anti{f:List Rat}{G:List (List Rat)}{ε u v:Rat}(h:Loc f G ε u v)(huv:u≤v):chg G v≤chg G u:=by
 rcases h with ⟨_,e⟩|⟨s,hs,hm,e⟩
 ·rw[e];exact Int.le_refl _
 ·by_cases hv:sg (evalL f v) = -s
  ·by_cases hu:sg (evalL f u) = -s
   ·rw[if_pos hv,if_pos hu] at e;omega
   ·exfalso
    by_cases he:u=v
    ·rw[he] at hu;exact hu hv
    ·have:=hm u v Rat.le_refl (by grind) Rat.le_refl
     rcases hs with rfl|rfl
     ·have e1:(((1:Int):Rat))=1:=rfl
      rw[e1] at this
      rcases sg_cases (evalL f u) with ⟨k1,k2⟩|⟨k1,k2⟩|⟨k1,k2⟩<;>rcases sg_cases (evalL f v) with ⟨m1,m2⟩|⟨m1,m2⟩|⟨m1,m2⟩<;>first|(exfalso;grind)|(exact hu k2)|(rw [m2] at hv;cases hv)
     ·have e1:(((-1:Int):Rat)) = -1:=rfl
      rw[e1] at this
      rcases sg_cases (evalL f u) with ⟨k1,k2⟩|⟨k1,k2⟩|⟨k1,k2⟩<;>rcases sg_cases (evalL f v) with ⟨m1,m2⟩|⟨m1,m2⟩|⟨m1,m2⟩<;>first|(exfalso;grind)|(exact hu k2)|(rw [m2] at hv;cases hv)
  ·rw[if_neg hv] at e
   split at e<;>omega
theorem Loc.keep{f:List Rat}{G:List (List Rat)}{ε u v c R:Rat}(h:Loc f G ε u v)(huv:u≤v)(hu:ab u≤R)(hv:ab v≤R)(hc:0<c)(ha:∀x,u≤x→x≤v→c≤ab (evalL f x))(hd:lip f R*(v-u)<c):chg G u=chg G v:=by
 rcases h with ⟨_,e⟩|⟨s,hs,hm,e⟩
 ·exact e
 ·have d:=ab_diff hv hu f
  have e1:ab (v-u)=v-u:=by rcases ab_cases (v-u) with h|h<;>grind
  rw[e1] at d
  have d1:=le_ab (evalL f v-evalL f u)
  have d2:=neg_le_ab (evalL f v-evalL f u)
  have a1:=ha u Rat.le_refl huv
  have a2:=ha v huv Rat.le_refl
  have es:sg (evalL f u)=sg (evalL f v):=by
   rcases sg_cases (evalL f u) with ⟨k1,k2⟩|⟨k1,k2⟩|⟨k1,k2⟩<;>rcases sg_cases (evalL f v) with ⟨m1,m2⟩|⟨m1,m2⟩|⟨m1,m2⟩<;>rcases ab_cases (evalL f u) with c1|c1<;>rcases ab_cases (evalL f v) with c2|c2<;>first|(exfalso;grind)|(rw [k2,m2];done)
  rw[es] at e
  omega
section
variable {f:List Rat} {R:Rat}
theorem both_ab{a b:Rat} : ∃R,0≤R∧ab a≤R∧ab b≤R:=by
 refine⟨ab a+ab b,?_,?_,?_⟩
 ·have:=ab_nonneg a;have:=ab_nonneg b;grind
 ·have:=ab_nonneg b;grind
 ·have:=ab_nonneg a;grind
theorem chain_const(h:deriveL f=[])(x:Rat):chg (chainF f.length f (deriveL f)) x=0:=by
 rw[h,chainF_nil]
 show varS 0 [sg (evalL f x)]=0
 rcases sg_three (evalL f x) with e|e|e<;>rw[e]<;>rfl
theorem derive_const(hz:lastZ f=false)(hf:f≠[])(h:deriveL f=[]):∃c,f=[c]∧c≠0:=by
 match f,hf with
 |[c],_=>exact⟨c,rfl,top_ne hz (by simp)⟩
 |a::b::r,_ =>
  exfalso
  have key:∀i,coef (derI 1 ((a::b::r).drop 1)) i=0:=by
   intro i
   have e2:trimL (derI 1 ((a::b::r).drop 1))=[]:=h
   rw[←coef_trimL,e2,coef_nil]
  have hc2:∀(q:List Rat) (i j:Nat),coef (derI i q) j=((i+j:Nat):Int)*coef q j:=by
   intro q
   induction q with
   |nil=>intro i j;show(0:Rat)=_*0;rw[Rat.mul_zero]
   |cons a q ih =>
    intro i j
    cases j with
    |zero=>rfl
    |succ j=>rw[derI,coef_succ,coef_succ,ih (i+1) j,show i+1+j=i+(j+1) from by omega]
  have hk:=key r.length
  rw[hc2] at hk
  have ht:=top_ne hz (by simp)
  have e:topL (a::b::r)=coef ((a::b::r).drop 1) r.length:=by
   unfold topL
   rw[show (a::b::r).length-1=r.length+1 from by simp];rfl
  rw[←e] at hk
  rcases Rat.mul_eq_zero.1 hk with h|h
  ·have:=Rat.intCast_inj.1 (show (((1+r.length:Nat):Int):Rat)=((0:Int):Rat) from h)
   omega
  ·exact ht h
theorem chg_anti(hz:lastZ f=false)(hf:f≠[])(hc:Cop f (deriveL f)){a b:Rat}(hab:a≤b):chg (chainF f.length f (deriveL f)) b≤chg (chainF f.length f (deriveL f)) a:=by
 by_cases h2:deriveL f=[]
 ·rw[chain_const h2,chain_const h2];exact Int.le_refl _
 ·obtain⟨R,hR,ha,hb⟩:=both_ab (a:=a) (b:=b)
  obtain⟨δ,ε,hδ,hε,hl⟩:=loc_exists hz h2 hf hc hR
  exact subdiv (P:=fun u v=>chg (chainF f.length f (deriveL f)) v≤chg (chainF f.length f (deriveL f)) u) hδ hab
   (fun u v h1 h3 h4 h5=>(hl u v (ab_between h1 (by grind) ha hb) (ab_between (by grind) h4 ha hb) h3 h5).anti h3)
   (fun u v w _ _ _ _ h1 h3=>Int.le_trans h3 h1)
theorem chg_keep(hz:lastZ f=false)(hf:f≠[])(hc:Cop f (deriveL f)){a b:Rat}(hab:a≤b)(h:Away f a b):chg (chainF f.length f (deriveL f)) a=chg (chainF f.length f (deriveL f)) b:=by
 by_cases h2:deriveL f=[]
 ·rw[chain_const h2,chain_const h2]
 ·obtain⟨R,hR,ha,hb⟩:=both_ab (a:=a) (b:=b)
  obtain⟨δ,ε,hδ,hε,hl⟩:=loc_exists hz h2 hf hc hR
  obtain⟨c,c1,c2⟩:=h
  have hL:=lip_nonneg hR f
  have hδ2:=div_pos' c1 (show 0<lip f R+1 by grind)
  have hδe:=Rat.div_mul_cancel (a:=c) (b:=lip f R+1) (by grind)
  generalize c/(lip f R+1)=δ2 at hδ2 hδe
  exact subdiv (P:=fun u v=>chg (chainF f.length f (deriveL f)) u=chg (chainF f.length f (deriveL f)) v) (δ:=minR δ δ2) (by unfold minR;split<;>assumption) hab
   (fun u v h1 h3 h4 h5=>by
    have hu:=ab_between h1 (show u≤b by grind) ha hb
    have hv:=ab_between (show a≤v by grind) h4 ha hb
    have w1:=Rat.le_trans h5 (minR_le_l δ δ2)
    have w2:=Rat.le_trans h5 (minR_le_r δ δ2)
    have w3:=Rat.mul_le_mul_of_nonneg_left w2 hL
    exact(hl u v hu hv h3 w1).keep h3 hu hv c1 (fun x x1 x2=>c2 x (Rat.le_trans h1 x1) (Rat.le_trans x2 h4)) (by grind))
   (fun u v w _ _ _ _ h1 h3=>h1.trans h3)
end
theorem away_dv{p q:List Rat}{a b:Rat}(h:Away q a b)(hd:Dv p q):Away p a b:=by
 obtain⟨u,hu⟩:=hd
 obtain⟨c,c1,c2⟩:=h
 obtain⟨R,hR,ha,hb⟩:=both_ab (a:=a) (b:=b)
 have hn:=nrm_nonneg hR u
 have hδ:=div_pos' c1 (show 0<nrm u R+1 by grind)
 have he:=Rat.div_mul_cancel (a:=c) (b:=nrm u R+1) (by grind)
 generalize c/(nrm u R+1)=d at hδ he
 refine⟨d,hδ,fun x x1 x2 => ?_⟩
 have h1:=c2 x x1 x2
 rw[hu,ab_mul] at h1
 have h2:=ab_eval (ab_between x1 x2 ha hb) u
 have h3:=Rat.mul_le_mul_of_nonneg_right h2 (ab_nonneg (evalL p x))
 have h4:=ab_nonneg (evalL p x)
 refine Rat.not_lt.1 fun hlt => ?_
 have h5:=Rat.mul_le_mul_of_nonneg_left (Rat.le_of_lt hlt) hn
 grind
theorem free_spec{p:List Rat}(hz:lastZ p=false)(h0:p≠[]):lastZ (freeL p)=false∧freeL p≠[]∧Cop (freeL p) (deriveL (freeL p))∧Dv (freeL p) p∧∃k,k≤p.length∧Dv p (powL (freeL p) k):=by
 obtain⟨w,s⟩:=sq_of hz h0
 have hm:=monicL_trim (divL p (gcdL p (deriveL p))).1
 have hne:=monicL_ne s.zf s.f0
 have d1:=monic_dv s.zf
 have d2:=dv_monic (divL p (gcdL p (deriveL p))).1
 have e:freeL p=monicL (divL p (gcdL p (deriveL p))).1:=rfl
 rw[e]
 refine⟨hm,hne,?_,?_,?_⟩
 ·have hc:=s.free
  obtain⟨u,v,h⟩:=hc
  have ht:=top_ne s.zf s.f0
  refine⟨smulL (topL (divL p (gcdL p (deriveL p))).1) u,smulL (topL (divL p (gcdL p (deriveL p))).1) v,fun x => ?_⟩
  have h1:=h x
  have hd:∀x,dEv (monicL (divL p (gcdL p (deriveL p))).1) x=1/topL (divL p (gcdL p (deriveL p))).1*dEv (divL p (gcdL p (deriveL p))).1 x:=by
   intro x
   rw[dEv_congr (q:=smulL (1/topL (divL p (gcdL p (deriveL p))).1) (divL p (gcdL p (deriveL p))).1) (fun x=>by rw[monicL_eval,evalL_smulL]) x,dEv_smul]
  rw[dEv_derive] at h1
  rw[evalL_smulL,evalL_smulL,monicL_eval,dEv_derive,hd]
  have h2:=Rat.div_mul_cancel (a:=1) ht
  grind
 ·refine d1.trans ⟨gcdL p (deriveL p),fun x=>by rw[s.pe];grind⟩
 ·have hall:=s.all
  have hgl:(gcdL p (deriveL p)).length+1≤p.length+1:=by
   have:=((gcdL_dv p (deriveL p) hz (lastZ_deriveL p)).1.len (gcdL_trim _ _) hz h0).2
   omega
  have pw:∀k,Dv (powL (divL p (gcdL p (deriveL p))).1 k) (powL (monicL (divL p (gcdL p (deriveL p))).1) k):=by
   intro k
   induction k with
   |zero=>exact Dv.refl _
   |succ k ih =>
    obtain⟨a,ha⟩:=ih
    obtain⟨b,hb⟩:=d2
    exact⟨mulL a b,fun x=>by
     show evalL (mulL _ _) x=_*evalL (mulL _ _) x
     rw[evalL_mulL,evalL_mulL,evalL_mulL,ha,hb];grind⟩
  by_cases hd0:deriveL p=[]
  ·
   obtain⟨c,rfl,hc0⟩:=derive_const hz h0 hd0
   refine⟨0,by simp,[1/c],fun x => ?_⟩
   show evalL [1] x=_
   rw[eval_c,eval_c,eval_c,Rat.div_mul_cancel hc0]
  ·have hgd:=((gcdL_dv p (deriveL p) hz (lastZ_deriveL p)).2.len (gcdL_trim _ _) (lastZ_deriveL p) hd0).2
   have hdl:=deriveL_lt2 h0
   exact⟨(gcdL p (deriveL p)).length+1,by omega,hall.trans (pw _)⟩
end Go.Proofs.YtjadajceekjeoaaGreatDoor.Sym
namespace Go.Proofs.YtjadajceekjeoaaGreatDoor.Sym
open Go Path CInt
set_option linter.unusedVariables false
def fB(h L:Nat):Nat:=L*(h+(L+1)*(xB h (h+1) (L+1)+1)+xB h (h+1) (L+1))+1
def sB(h L:Nat):Nat:=xB (fB h L) (fB h L+1) (L+1)
structure Fine (h L:Nat) (p:List Rat):Prop where
 zp:lastZ p=false
 ne:p≠[]
 len:p.length≤L
 ch:Ch h p
 h1:1≤h
 hL:L≤10
 sz:sB h L≤1073741824
theorem xB_pos{a b:Nat}(ha:1≤a)(hab:a≤b)(j:Nat):1≤xB a b j:=Nat.le_trans ha (xB_le a b hab (i:=0) (Nat.zero_le _))
section
variable {h L:Nat} {p:List Rat}
theorem Fine.pos(f:Fine h L p):1≤L:=by have:=List.length_pos_iff.2 f.ne;have:=f.len;omega
theorem Fine.chk(f:Fine h L p):Sym.chk (p.map mkR)=0:=chk_map f.zp (by have:=f.len;have:=f.hL;omega)
theorem Fine.fb(f:Fine h L p):xB h (h+1) (L+1)≤fB h L∧h+(L+1)*(xB h (h+1) (L+1)+1)+xB h (h+1) (L+1)≤fB h L∧1≤fB h L∧fB h L≤1073741824∧h≤fB h L:=by
 have hL:=f.pos
 have h1:1*(h+(L+1)*(xB h (h+1) (L+1)+1)+xB h (h+1) (L+1))≤L*(h+(L+1)*(xB h (h+1) (L+1)+1)+xB h (h+1) (L+1)):=Nat.mul_le_mul_right _ hL
 have h2:=xB_le (fB h L) (fB h L+1) (Nat.le_succ _) (i:=0) (j:=L+1) (Nat.zero_le _)
 have h3:=f.sz
 have h4:xB (fB h L) (fB h L+1) 0=fB h L:=rfl
 have h5:sB h L=xB (fB h L) (fB h L+1) (L+1):=rfl
 have h6:fB h L=L*(h+(L+1)*(xB h (h+1) (L+1)+1)+xB h (h+1) (L+1))+1:=rfl
 refine⟨?_,?_,?_,?_,?_⟩<;>omega
theorem Fine.euc(f:Fine h L p):Euc h (h+1) L 0 1 p (deriveL p):=⟨f.ch,f.ch.derive (by have:=f.len;have:=f.hL;omega),by omega,deriveL_lt2 f.ne,by have:=f.len;omega,f.zp,lastZ_deriveL p⟩
theorem Fine.x2(f:Fine h L p):4*xB h (h+1) (L+2)+10≤68719476736:=by
 obtain⟨h1,h2,h3,h4,h5⟩:=f.fb
 have e:xB h (h+1) (L+2)=xB h (h+1) L+2*(xB h (h+1) (L+1)+1):=rfl
 have:=xB_mono h (h+1) (Nat.le_succ _) L
 omega
theorem Fine.gcd_ch(f:Fine h L p):Ch (xB h (h+1) (L+1)) (gcdL p (deriveL p)):=by
 have:=gcdF_Ch f.h1 (Nat.le_succ h) ((deriveL p).length+1) 0 1 p (deriveL p) f.euc
 exact this.monic (xB_pos f.h1 (Nat.le_succ h) _) (gcdF_trim _ _ _ f.zp (lastZ_deriveL p))
theorem Fine.gcd_ne(f:Fine h L p):gcdL p (deriveL p)≠[]:=gcdL_ne _ f.zp (lastZ_deriveL p) f.ne
theorem Fine.div_ok(f:Fine h L p):2*(h+(p.length+1-(gcdL p (deriveL p)).length)*(xB h (h+1) (L+1)+1))+3*xB h (h+1) (L+1)+5≤68719476736:=by
 obtain⟨h1,h2,h3,h4,h5⟩:=f.fb
 have hl:=f.len
 have:(p.length+1-(gcdL p (deriveL p)).length)*(xB h (h+1) (L+1)+1)≤(L+1)*(xB h (h+1) (L+1)+1):=Nat.mul_le_mul_right _ (by omega)
 omega
theorem Fine.gcd_len(f:Fine h L p):(gcdL p (deriveL p)).length≤p.length:=((gcdL_dv p (deriveL p) f.zp (lastZ_deriveL p)).1.len (gcdL_trim _ _) f.zp f.ne).2
theorem Fine.quot_len(f:Fine h L p):(divL p (gcdL p (deriveL p))).1.length≤p.length:=by
 have:=divL_len (p:=p) (gcdL_trim p (deriveL p)) f.gcd_ne
 have:=List.length_pos_iff.2 f.gcd_ne
 omega
theorem Fine.quot_ch(f:Fine h L p):Ch (fB h L) (divL p (gcdL p (deriveL p))).1:=by
 have hq:=ht_quot f.ch f.gcd_ch f.h1 (xB_pos f.h1 (Nat.le_succ h) _) (gcdL_trim _ _) f.gcd_ne
 have hl:=f.len
 have h1:(p.length+1-(gcdL p (deriveL p)).length)*(xB h (h+1) (L+1)+1)≤(L+1)*(xB h (h+1) (L+1)+1):=Nat.mul_le_mul_right _ (by omega)
 have h2:=Ch.of_fl (fl_mono hq (show _≤h+(L+1)*(xB h (h+1) (L+1)+1)+xB h (h+1) (L+1) by omega))
 refine h2.mono ?_
 have h3:(divL p (gcdL p (deriveL p))).1.length*(h+(L+1)*(xB h (h+1) (L+1)+1)+xB h (h+1) (L+1))≤L*(h+(L+1)*(xB h (h+1) (L+1)+1)+xB h (h+1) (L+1)):=Nat.mul_le_mul_right _ (by have:=f.quot_len;omega)
 unfold fB
 omega
theorem Fine.free_ch(f:Fine h L p):Ch (fB h L) (freeL p):=f.quot_ch.monic f.fb.2.2.1 (divL_trim _ _).1
theorem Fine.free_len(f:Fine h L p):(freeL p).length≤p.length:=by
 unfold freeL
 rw[monicL_len (divL_trim _ _).1];exact f.quot_len
theorem Fine.free_euc(f:Fine h L p):Euc (fB h L) (fB h L+1) L 0 1 (freeL p) (deriveL (freeL p)):=by
 obtain⟨f1,f2,_⟩:=free_spec f.zp f.ne
 have:=f.free_len
 have:=f.len
 have:=f.hL
 exact⟨f.free_ch,f.free_ch.derive (by omega),by omega,deriveL_lt2 f2,by omega,f1,lastZ_deriveL _⟩
theorem chain_ch{a b N:Nat}(ha:1≤a)(hab:a≤b):∀(n i j:Nat) (p d:List Rat),Euc a b N i j p d→∀g∈chainF n p d,Ch (xB a b (N+1)) g∧g.length≤p.length
 |0,i,j,p,d,e,g,hg=>by
  rw[chainF,List.mem_singleton] at hg
  rw[hg]
  exact⟨e.hp.mono (xB_le a b hab (by have:=e.idx;have:=e.lt;omega)),Nat.le_refl _⟩
 |n+1,i,j,p,d,e,g,hg=>by
  have hp:Ch (xB a b (N+1)) p:=e.hp.mono (xB_le a b hab (by have:=e.idx;have:=e.lt;omega))
  by_cases h:d=[]
  ·rw[h,chainF_nil,List.mem_singleton] at hg
   rw[hg];exact⟨hp,Nat.le_refl _⟩
  ·rw[chainF_cons h] at hg
   rcases List.mem_cons.1 hg with hg|hg
   ·rw[hg];exact⟨hp,Nat.le_refl _⟩
   ·obtain⟨r1,r2⟩:=e.rest hab h
    have hc:Ch (xB a b (j+(p.length-d.length))) (trimL (smulL (-1) (restL p d))):=by
     refine Ch.trim ?_
     obtain⟨D,d1,d2,d3⟩:=r1
     refine⟨D,d1,d2,fun i => ?_⟩
     obtain⟨m,m1,m2⟩:=d3 i
     refine⟨-m,?_,by rw[wl_neg];exact m2⟩
     rw[coef_smulL,Rat.intCast_neg,←m1];grind
    have:=chain_ch ha hab n _ _ d _ (e.next hab h hc (rest_neg_len e.zq h) (lastZ_trimL _)) g hg
    exact⟨this.1,by have:=e.len;omega⟩
theorem Fine.chain(f:Fine h L p):∀g∈chainL p,Fl 1073741824 g∧g.length≤10:=by
 intro g hg
 have hf:=f.fb
 obtain⟨h1,h2⟩:=chain_ch hf.2.2.1 (Nat.le_succ _) (freeL p).length 0 1 _ _ f.free_euc g hg
 have h3:=f.sz
 have h4:=f.free_len
 have h5:=f.len
 have h6:=f.hL
 exact⟨fl_mono (h1.fl (xB_pos hf.2.2.1 (Nat.le_succ _) _)) h3,by omega⟩
theorem Fine.chain_count(f:Fine h L p):(chainL p).length≤11:=by
 have h1:=chainF_len (freeL p).length (freeL p) (deriveL (freeL p))
 have h2:=f.free_len
 have h3:=f.len
 have h4:=f.hL
 have h5:(chainL p).length≤(freeL p).length+1:=h1
 omega
end
theorem varS_nonneg:∀(l:Int) (r:List Int),0≤varS l r∧varS l r≤r.length
 |_,[]=>⟨Int.le_refl _,Int.le_refl _⟩
 |l,s::r=>by
  rw[varS]
  obtain⟨a,b⟩:=varS_nonneg l r
  obtain⟨c,d⟩:=varS_nonneg s r
  rw[List.length_cons]
  split
  ·omega
  ·split<;>omega
theorem chg_range(G:List (List Rat))(x:Rat):0≤chg G x∧chg G x≤G.length:=by
 have:=varS_nonneg 0 (G.map (fun g=>sg (evalL g x)))
 rw[List.length_map] at this
 exact this
abbrev pqs(G:List (List Rat)):PV:=lpv (lcell ARat.cells) (G.map (fun g=>g.map mkR))
theorem CPl.Free{h L:Nat}{p:List Rat}(f:Fine h L p):Contract prg 31 [pq p] (.tup [pq (freeL p),.nilI]):=by
 have hl:=f.len
 have hL:=f.hL
 have hf:=f.fb
 have hfl:=f.ch.fl f.h1
 have hck:=CPo.Check (p.map mkR) (fitQ hfl (by omega))
 rw[f.chk] at hck
 have hd:=CPo.derive (p.map mkR) (by rw[lenM];omega) (fit_mapk (fl_mono hfl (by omega)))
 rw[vals_mkR] at hd
 have hp:=List.length_pos_iff.2 f.ne
 have hg:=CPl.gcd f.h1 (Nat.le_succ h) (by omega) f.x2 p (deriveL p) f.euc (by omega)
 have hdv:=CPl.divide p (gcdL p (deriveL p)) (gcdL_trim _ _) f.gcd_ne f.ch f.gcd_ch f.h1 (xB_pos f.h1 (Nat.le_succ h) _) (by omega) (by have:=f.gcd_len;omega) f.div_ok
 have hm:=CPl.monic (divL p (gcdL p (deriveL p))).1 (divL_trim _ _).1 f.quot_ch hf.2.2.1 (by have:=f.quot_len;omega) (by omega)
 exact poly_Free.e1 _ _ _ _ _ _ hck (by rw[lenM];omega) hd hg hdv hm
theorem chk2_zero{p q:List ARat}(hp:chk p=0)(hq:chk q=0):chk2 p q=0:=by unfold chk2;rw[if_pos hp];exact hq
theorem CPl.next{a b N i j:Nat}(ha:1≤a)(hab:a≤b)(hN:N≤60)(hk:4*xB a b (N+2)+10≤68719476736){p d:List Rat}(e:Euc a b N i j p d)(h:d≠[]):Contract prg 103 [pq p,pq d] (.tup [pq (divL p d).1,pq (restL p d),.nilI])∧Contract prg 104 [pq (restL p d),(mkR ((-1:Int):Rat)).pv] (.tup [pq (trimL (smulL (-1) (restL p d))),.nilI]):=by
 have x1:∀j,1≤xB a b j:=xB_pos ha hab
 have hi:=e.idx
 have hij:=e.lt
 have hlen:=e.len
 have hbd:=e.bound
 obtain⟨r1,r2⟩:=e.rest hab h
 have hx:xB a b (N+2)=xB a b N+2*(xB a b (N+1)+1):=rfl
 have b0:=xB_le a b hab (i:=i) (j:=N+1) (by omega)
 have b1:=xB_le a b hab (i:=j+(p.length-d.length)) (j:=N+1) (by omega)
 have b2:=xB_le a b hab (i:=j) (j:=N+1) (by omega)
 have hcp:=chk_map e.zp (by omega)
 have hcd:=chk_map e.zq (by omega)
 have hzr:=restL_trim p d
 have hcr:=chk_map hzr (by omega)
 constructor
 ·have hck:=CPl.checks2 (p.map mkR) (d.map mkR) (fitQ (e.hp.fl (x1 i)) (by omega)) (fitQ (e.hq.fl (x1 j)) (by omega))
  rw[chk2_zero hcp hcd] at hck
  have hd:=CPl.divide p d e.zq h e.hp e.hq (x1 i) (x1 j) (by omega) (by omega) (by
   obtain⟨j',rfl⟩:∃j',j=j'+1:=⟨j-1,by omega⟩
   obtain⟨d',hd⟩:∃d',p.length-d.length=d'+1:=⟨p.length-d.length-1,by omega⟩
   have h2:=xB_le a b hab (i:=i) (j:=j') (by omega)
   have h3:=xB_gap a b hab j' d'
   have h4:=xB_le a b hab (i:=j'+1+(d'+1)) (j:=N+1) (by omega)
   rw[show p.length+1-d.length=d'+2 from by omega]
   omega)
  have:=List.length_pos_iff.2 h
  exact poly_Div.e1 _ _ _ _ hck (by rw[lenM];omega) hd
 ·have hck:=CPo.Check ((restL p d).map mkR) (fitQ (r1.fl (x1 _)) (by omega))
  rw[hcr] at hck
  have hp:=CPl.plus (a:=1) (d:=1) [] (restL p d) ((-1:Int):Rat) (by simp) (by omega) (fun x hx=>by cases hx) (r1.fl (x1 _)) (by decide) (by omega) (x1 _) (by omega)
  exact poly_Scale.e0 _ _ _ hck hp
theorem Fine.free_x2{h L:Nat}{p:List Rat}(f:Fine h L p):4*xB (fB h L) (fB h L+1) (L+2)+10≤68719476736:=by
 have e:xB (fB h L) (fB h L+1) (L+2)=xB (fB h L) (fB h L+1) L+2*(xB (fB h L) (fB h L+1) (L+1)+1):=rfl
 have h1:=xB_mono (fB h L) (fB h L+1) (Nat.le_succ _) L
 have h2:=f.sz
 have h3:sB h L=xB (fB h L) (fB h L+1) (L+1):=rfl
 omega
end Go.Proofs.YtjadajceekjeoaaGreatDoor.Sym
namespace Go.Proofs.YtjadajceekjeoaaGreatDoor.Sym.Path
open Go
set_option maxRecDepth 20000
set_option linter.unusedVariables false
namespace sturm_Count
theorem e3(p:List ARat)(lo hi:ARat)(val val1:Bool)(cmp:Int)(cha:List (List ARat))(cha2 cha3:Int)(h1:Contract prg 46 [(polyPV p)] .nilI)(h2:Contract prg 47 [lo.pv] (vB val))(h3:val=true)(h4:Contract prg 47 [hi.pv] (vB val1))(h5:val1=true)(h6:Contract prg 37 [lo.pv,hi.pv] (vI cmp))(h7:cmp≤0)(h8:Contract prg 48 [(polyPV p)] (.tup [(lpv (lcell ARat.cells) cha),.nilI]))(h9:Contract prg 49 [(lpv (lcell ARat.cells) cha),lo.pv] (vI cha2))(h10:Contract prg 49 [(lpv (lcell ARat.cells) cha),hi.pv] (vI cha3))(h11:InI64 (cha2-cha3)):Contract prg 13 [(polyPV p),lo.pv,hi.pv] (.tup [(vI (cha2-cha3)),.nilI]) :=
 Contract.ofL Tryz.func13 (by kernel_rfl) (L.done mixed tabOk (n:=129) (ns:=[1,1,1,1,1,1,1,1,1,1,1,1,1,1,1,1,1,1]) (tr:=[.reg [],.reg [.none,(.pv .nilI)],.reg [],.auto,.reg [.none,(.pv (vB val)),.none,.none,.none,(.pv (vB val1)),.none,(.dec false),.none,.none,.none,(.pv (vI cmp)),.none,(.dec false)],.dec false,.reg [.none,(.pv (.tup [(lpv (lcell ARat.cells) cha),.nilI]))],.reg [],.auto,dr 7 2 [.none,.none,(.pv (vI cha2)),.none,.none,(.pv (vI cha3)),(iI (cha2-cha3))]]) (cj h1 (cj h2 (cj (bnot_f h3) (cj (bnot_f h3) (cj h4 (cj (bnot_f h3) (cj (bnot_f h3) (cj (bnot_f h5) (cj (bnot_f h5) (cj (bnot_f h5) (cj h6 (cj (bnot_f h5) (cj (bnot_f h5) (cj (dlt_f h7) (cj h8 (cj h9 (cj h10 (cj (bs_sub h11) True.intro)))))))))))))))))) (by kernel_rfl))
end sturm_Count
namespace sturm_All
theorem e0(p:List ARat)(bou neg:ARat)(cou:Int)(cou1:Option Int)(h1:Contract prg 15 [(polyPV p)] (.tup [bou.pv,.nilI]))(h2:Contract prg 30 [bou.pv] neg.pv)(h3:Contract prg 13 [(polyPV p),neg.pv,bou.pv] (.tup [(vI cou),(errPV cou1)])):Contract prg 14 [(polyPV p)] (.tup [(vI cou),(errPV cou1)]) :=
 Contract.ofL Tryz.func14 (by kernel_rfl) (L.done mixed tabOk (n:=93) (ns:=[1,1,1]) (tr:=[.reg [],.reg [.none,(.pv (.tup [bou.pv,.nilI]))],.reg [],.auto,dr 7 2 [.none,.none,(.pv neg.pv),.none,(.pv (.tup [(vI cou),(errPV cou1)]))]]) (cj h1 (cj h2 (cj h3 True.intro))) (by kernel_rfl))
end sturm_All
namespace sturm_Bound
@[reducible] noncomputable def fn:Func:=Tryz.f15
noncomputable def atK1:List Itm:=focus [0,2,0,0,2,0,2,1,2,0,2,0,0,2,0,0] [.code (bodyOf fn)]
def inv1(p:List ARat)(t_19:Nat)(site_5:ARat):St:=⟨[(0,(.pv (polyPV p))),(2,(.ptr 2 0)),(5,(.ptr 5 0)),(17,(.pv (polyPV p))),(18,(eI (p.length:Int))),(19,(eI (t_19:Int)))],[(2,(.lit [(eB false),(.pv (.list [])),(.pv (.list []))])),(5,(.lit [(eB site_5.neg),(.pv (wordsPV site_5.num)),(.pv (wordsPV site_5.den))]))]⟩
@[reducible] noncomputable def Loop1(p:List ARat)(t_19:Nat)(site_5:ARat)(r:PV):Prop:=L prg fn atK1 (inv1 p t_19 site_5) r
noncomputable def atK2:List Itm:=focus [0,2,0,0,2,0,2,1,2,0,2,0,0,2,0,0,0,0,2,0,0,2,0,0,0,2,0,2,0,0,2,1,2,0,0] [.code (bodyOf fn)]
def inv2(p:List ARat)(t_19:Nat)(site_5 div:ARat):St:=⟨[(0,(.pv (polyPV p))),(2,(.ptr 2 0)),(5,(.ptr 5 0)),(8,(.ptr 8 0)),(17,(.pv (polyPV p))),(18,(eI (p.length:Int))),(19,(eI (t_19:Int)))],[(2,(.lit [(eB false),(.pv (.list [])),(.pv (.list []))])),(5,(.lit [(eB site_5.neg),(.pv (wordsPV site_5.num)),(.pv (wordsPV site_5.den))])),(8,(.lit [(eB div.neg),(.pv (wordsPV div.num)),(.pv (wordsPV div.den))]))]⟩
@[reducible] noncomputable def Loop2(p:List ARat)(t_19:Nat)(site_5 div:ARat)(r:PV):Prop:=L prg fn atK2 (inv2 p t_19 site_5 div) r
theorem e0(p:List ARat)(of:ARat){r:PV}(h1:Contract prg 46 [(polyPV p)] .nilI)(h2:Contract prg 43 [(vI 1)] of.pv)(hL:Loop1 p 0 of r):Contract prg 15 [(polyPV p)] r :=
 Contract.ofL Tryz.func15 (by kernel_rfl) (L.go mixed tabOk (n:=108) (ns:=[1,1,1]) (tr:=[.reg [],.reg [.none,(.pv .nilI)],.reg [],.auto,.reg [(.pv of.pv)],.reg [.none,(iI (p.length:Int))],.keep [0,2,5,17,18,19],.ord [2,5]]) (cj h1 (cj h2 (cj (o_len ARat.cells p) True.intro))) (by kernel_rfl) hL)
theorem l10(p:List ARat)(t_19:Nat)(site_5 v:ARat)(k:Nat)(v1 div:ARat){r:PV}(h1:t_19<p.length)(h2:p[t_19]? = some v)(h3:InI64 ((p.length:Int)-1))(h4:((p.length:Int)-1)=(k:Int))(h5:p[k]? = some v1)(h6:Contract prg 50 [v.pv,v1.pv] (.tup [div.pv,.nilI]))(hL:Loop2 p t_19 site_5 div r):Loop1 p t_19 site_5 r :=
 L.go mixed tabOk (n:=165) (ns:=[1,3,1,1,3,1]) (tr:=[.auto,.reg [],.dec true,.reg [(.row t_19 (ARat.cells v))],dr 13 1 [.none,.none,.none,(iI (p.length:Int)),(iI ((p.length:Int)-1)),(.row k (ARat.cells v1)),.none,(.pv (.tup [div.pv,.nilI]))],.reg [],.auto,.keep [0,2,5,8,17,18,19],.drop [7],.ord [2,5,8]]) (cj (dltN_t h1) (cj (o_at ARat.cells (Eq.refl (((t_19:Nat):Int):Int)) h2) (cj (o_len ARat.cells p) (cj (bs_sub h3) (cj (o_at ARat.cells h4 h5) (cj h6 True.intro)))))) (by kernel_rfl) hL
theorem l12(p:List ARat)(t_19:Nat)(site_5:ARat)(h1:p.length≤t_19):Loop1 p t_19 site_5 (.tup [site_5.pv,.nilI]) :=
 L.done mixed tabOk (n:=141) (ns:=[1]) (tr:=[.auto,.reg [],.dec false,.reg []]) (cj (dltN_f h1) True.intro) (by kernel_rfl)
theorem l20(p:List ARat)(t_19:Nat)(site_5 div of abs add:ARat)(cmp:Int)(add1:ARat){r:PV}(h1:Contract prg 43 [(vI 1)] of.pv)(h2:Contract prg 51 [div.pv] abs.pv)(h3:Contract prg 29 [of.pv,abs.pv] add.pv)(h4:Contract prg 37 [site_5.pv,add.pv] (vI cmp))(h5:cmp<0)(h6:Contract prg 29 [site_5.pv,site_5.pv] add1.pv)(hL:Loop2 p t_19 add1 div r):Loop2 p t_19 site_5 div r :=
 L.go mixed tabOk (n:=192) (ns:=[1,1,1,1,1,1]) (tr:=[.auto,dr 7 0 [.none,(.pv of.pv),.none,(.pv abs.pv),(.pv add.pv),(.pv (vI cmp))],.dec true,.reg [.none,.none,(.pv add1.pv)],.keep [0,2,5,8,17,18,19]]) (cj h1 (cj h2 (cj h3 (cj h4 (cj (dlt_t h5) (cj h6 True.intro)))))) (by kernel_rfl) hL
theorem l21(p:List ARat)(t_19:Nat)(site_5 div of abs add:ARat)(cmp:Int){r:PV}(h1:Contract prg 43 [(vI 1)] of.pv)(h2:Contract prg 51 [div.pv] abs.pv)(h3:Contract prg 29 [of.pv,abs.pv] add.pv)(h4:Contract prg 37 [site_5.pv,add.pv] (vI cmp))(h5:0≤cmp)(h6:(t_19+1)<9223372036854775808)(hL:Loop1 p (t_19+1) site_5 r):Loop2 p t_19 site_5 div r :=
 L.go mixed tabOk (n:=198) (ns:=[1,1,1,1,1,1]) (tr:=[.auto,dr 7 0 [.none,(.pv of.pv),.none,(.pv abs.pv),(.pv add.pv),(.pv (vI cmp))],.dec false,.reg [(iI (((t_19+1):Nat):Int))],.keep [0,2,5,17,18,19],.drop [8]]) (cj h1 (cj h2 (cj h3 (cj h4 (cj (dlt_f h5) (cj (bs_addN h6) True.intro)))))) (by kernel_rfl) hL
end sturm_Bound
namespace sturm_Refine
@[reducible] noncomputable def fn:Func:=Tryz.f21
noncomputable def atK1:List Itm:=focus [0,2,0,0,2,0,2,1,2,0,0,2,1,2,0,2,0,0,2,1,2,0,0,2,1,2,0,2,0,0,2,1,2,0,2,0,2,0,0,2,0,0] [.code (bodyOf fn)]
def inv1(fre:List ARat)(bits:Int)(t_60:Nat)(rV:ARange)(site_12 mak:ARat):St:=⟨[(4,(.ptr 4 0)),(6,(.ptr 6 0)),(11,(.pv (polyPV fre))),(12,(.ptr 12 0)),(13,(.ptr 13 0)),(59,(eI bits)),(60,(eI (t_60:Int)))],[(4,(.lit [(eB rV.lo.neg),(.pv (wordsPV rV.lo.num)),(.pv (wordsPV rV.lo.den)),(eB rV.hi.neg),(.pv (wordsPV rV.hi.num)),(.pv (wordsPV rV.hi.den))])),(6,(.lit [(eB false),(.pv (.list [])),(.pv (.list [])),(eB false),(.pv (.list [])),(.pv (.list []))])),(12,(.lit [(eB site_12.neg),(.pv (wordsPV site_12.num)),(.pv (wordsPV site_12.den))])),(13,(.lit [(eB mak.neg),(.pv (wordsPV mak.num)),(.pv (wordsPV mak.den))]))]⟩
@[reducible] noncomputable def Loop1(fre:List ARat)(bits:Int)(t_60:Nat)(rV:ARange)(site_12 mak:ARat)(r:PV):Prop:=L prg fn atK1 (inv1 fre bits t_60 rV site_12 mak) r
noncomputable def atK2:List Itm:=focus [0,2,0,0,2,0,2,1,2,0,0,2,1,2,0,2,0,0,2,1,2,0,0,2,1,2,0,2,0,0,2,1,2,0,2,0,2,0,0,2,0,0,0,0,2,0,1,2,2,2,2,0,2,0,2,0,0,0] [.code (bodyOf fn)]
def inv2(fre:List ARat)(val:Int)(site_4:ARange)(site_12:ARat):St:=⟨[(4,(.ptr 4 0)),(6,(.ptr 6 0)),(11,(.pv (polyPV fre))),(12,(.ptr 12 0)),(15,(eI val))],[(4,(.lit [(eB site_4.lo.neg),(.pv (wordsPV site_4.lo.num)),(.pv (wordsPV site_4.lo.den)),(eB site_4.hi.neg),(.pv (wordsPV site_4.hi.num)),(.pv (wordsPV site_4.hi.den))])),(6,(.lit [(eB false),(.pv (.list [])),(.pv (.list [])),(eB false),(.pv (.list [])),(.pv (.list []))])),(12,(.lit [(eB site_12.neg),(.pv (wordsPV site_12.num)),(.pv (wordsPV site_12.den))]))]⟩
@[reducible] noncomputable def Loop2(fre:List ARat)(val:Int)(site_4:ARange)(site_12:ARat)(r:PV):Prop:=L prg fn atK2 (inv2 fre val site_4 site_12) r
theorem e3(p:List ARat)(rV:ARange)(bits:Int)(iso:Bool)(fre:List ARat)(of mak:ARat)(mak1:Option Int){r:PV}(h1:Contract prg 46 [(polyPV p)] .nilI)(h2:0≤bits)(h3:bits≤256)(h4:Contract prg 61 [(polyPV p),rV.pv] (.tup [(vB iso),.nilI]))(h5:iso=true)(h6:Contract prg 31 [(polyPV p)] (.tup [(polyPV fre),.nilI]))(h7:Contract prg 43 [(vI 1)] of.pv)(h8:Contract prg 36 [(vI 1),(vI 2)] (.tup [mak.pv,(errPV mak1)]))(hL:Loop1 fre bits 0 rV of mak r):Contract prg 21 [(polyPV p),rV.pv,(vI bits)] r :=
 Contract.ofL Tryz.func21 (by kernel_rfl) (L.go mixed tabOk (n:=186) (ns:=[1,1,1,1,1,1,1,1,1,1]) (tr:=[.reg [],.reg [.none,(.pv .nilI)],.reg [],.auto,.reg [.none,.none,.none,.none,.none,(.dec false)],.dec false,.reg [.none,.none,(.pv (.tup [(vB iso),.nilI]))],.reg [],.auto,.reg [],.dec false,.reg [.none,(.pv (.tup [(polyPV fre),.nilI]))],.reg [],.auto,.reg [(.pv of.pv)],.reg [(.pv (.tup [mak.pv,(errPV mak1)]))],.reg [],.keep [4,6,11,12,13,59,60],.ord [4,6,12,13]]) (cj h1 (cj (dlt_f h2) (cj (dlt_f h2) (cj (dlt_f h2) (cj (dlt_f h3) (cj h4 (cj (bnot_f h5) (cj h6 (cj h7 (cj h8 True.intro)))))))))) (by kernel_rfl) hL)
theorem l10(fre:List ARat)(bits:Int)(t_60:Nat)(rV:ARange)(site_12 mak mul:ARat){r:PV}(h1:(t_60:Int)<bits)(h2:Contract prg 62 [site_12.pv,mak.pv] mul.pv)(h3:(t_60+1)<9223372036854775808)(hL:Loop1 fre bits (t_60+1) rV mul mak r):Loop1 fre bits t_60 rV site_12 mak r :=
 L.go mixed tabOk (n:=219) (ns:=[1,1,1]) (tr:=[.auto,.reg [],.dec true,.reg [.none,.none,(.pv mul.pv)],.reg [(iI (((t_60+1):Nat):Int))],.keep [4,6,11,12,13,59,60]]) (cj (dlt_t h1) (cj h2 (cj (bs_addN h3) True.intro))) (by kernel_rfl) hL
theorem l11(fre:List ARat)(bits:Int)(t_60:Nat)(rV:ARange)(site_12 mak:ARat)(hul:ARange)(val:Int){r:PV}(h1:bits≤(t_60:Int))(h2:Contract prg 63 [rV.pv,rV.pv] hul.pv)(h3:Contract prg 64 [(polyPV fre),hul.lo.pv] (vI val))(hL:Loop2 fre val hul site_12 r):Loop1 fre bits t_60 rV site_12 mak r :=
 L.go mixed tabOk (n:=234) (ns:=[1,1,1]) (tr:=[.auto,.reg [],.dec false,.reg [.none,.none,(.pv hul.pv)],.reg [.none,.none,.none,(.pv (vI val))],.keep [4,6,11,12,15],.drop [13]]) (cj (dlt_f h1) (cj h2 (cj h3 True.intro))) (by kernel_rfl) hL
theorem l20(fre:List ARat)(val:Int)(site_4:ARange)(site_12 wid:ARat)(cmp:Int)(mid:ARat)(val1:Int)(poi:ARange)(h1:Contract prg 39 [site_4.pv] wid.pv)(h2:Contract prg 37 [wid.pv,site_12.pv] (vI cmp))(h3:0<cmp)(h4:Contract prg 65 [site_4.pv] mid.pv)(h5:Contract prg 64 [(polyPV fre),mid.pv] (vI val1))(h6:val1=0)(h7:Contract prg 66 [mid.pv] poi.pv):Loop2 fre val site_4 site_12 (.tup [poi.pv,.nilI]) :=
 L.done mixed tabOk (n:=285) (ns:=[1,1,1,1,1,1,1]) (tr:=[.auto,dr 5 0 [.none,(.pv wid.pv),.none,(.pv (vI cmp))],.dec true,.reg [.none,(.pv mid.pv)],.reg [.none,.none,(.pv (vI val1))],.reg [],.dec true,.reg [.none,(.pv poi.pv)]]) (cj h1 (cj h2 (cj (dlt_t h3) (cj h4 (cj h5 (cj (deq_t h6) (cj h7 True.intro))))))) (by kernel_rfl)
theorem l21(fre:List ARat)(val:Int)(site_4:ARange)(site_12 wid:ARat)(cmp:Int)(mid:ARat)(val1:Int){r:PV}(h1:Contract prg 39 [site_4.pv] wid.pv)(h2:Contract prg 37 [wid.pv,site_12.pv] (vI cmp))(h3:0<cmp)(h4:Contract prg 65 [site_4.pv] mid.pv)(h5:Contract prg 64 [(polyPV fre),mid.pv] (vI val1))(h6:val1≠0)(h7:val1=val)(hL:Loop2 fre val (⟨mid,site_4.hi⟩:ARange) site_12 r):Loop2 fre val site_4 site_12 r :=
 L.go mixed tabOk (n:=297) (ns:=[1,1,1,1,1,1,1]) (tr:=[.auto,dr 5 0 [.none,(.pv wid.pv),.none,(.pv (vI cmp))],.dec true,.reg [.none,(.pv mid.pv)],.reg [.none,.none,(.pv (vI val1))],.reg [],.dec false,.reg [],.dec true,.reg [],.keep [4,6,11,12,15],.drop [16]]) (cj h1 (cj h2 (cj (dlt_t h3) (cj h4 (cj h5 (cj (deq_f h6) (cj (deq_t h7) True.intro))))))) (by kernel_rfl) hL
theorem l22(fre:List ARat)(val:Int)(site_4:ARange)(site_12 wid:ARat)(cmp:Int)(mid:ARat)(val1:Int){r:PV}(h1:Contract prg 39 [site_4.pv] wid.pv)(h2:Contract prg 37 [wid.pv,site_12.pv] (vI cmp))(h3:0<cmp)(h4:Contract prg 65 [site_4.pv] mid.pv)(h5:Contract prg 64 [(polyPV fre),mid.pv] (vI val1))(h6:val1≠0)(h7:val1≠val)(hL:Loop2 fre val (⟨site_4.lo,mid⟩:ARange) site_12 r):Loop2 fre val site_4 site_12 r :=
 L.go mixed tabOk (n:=297) (ns:=[1,1,1,1,1,1,1]) (tr:=[.auto,dr 5 0 [.none,(.pv wid.pv),.none,(.pv (vI cmp))],.dec true,.reg [.none,(.pv mid.pv)],.reg [.none,.none,(.pv (vI val1))],.reg [],.dec false,.reg [],.dec false,.reg [],.keep [4,6,11,12,15],.drop [16]]) (cj h1 (cj h2 (cj (dlt_t h3) (cj h4 (cj h5 (cj (deq_f h6) (cj (deq_f h7) True.intro))))))) (by kernel_rfl) hL
theorem l23(fre:List ARat)(val:Int)(site_4:ARange)(site_12 wid:ARat)(cmp:Int)(h1:Contract prg 39 [site_4.pv] wid.pv)(h2:Contract prg 37 [wid.pv,site_12.pv] (vI cmp))(h3:cmp≤0):Loop2 fre val site_4 site_12 (.tup [site_4.pv,.nilI]) :=
 L.done mixed tabOk (n:=267) (ns:=[1,1,1]) (tr:=[.auto,dr 5 0 [.none,(.pv wid.pv),.none,(.pv (vI cmp))],.dec false,.reg []]) (cj h1 (cj h2 (cj (dlt_f h3) True.intro))) (by kernel_rfl)
end sturm_Refine
namespace sturm_Isolate
theorem e0(p:List ARat)(bou:ARat)(cha:List (List ARat))(neg:ARat)(z:List ARange)(h1:Contract prg 15 [(polyPV p)] (.tup [bou.pv,.nilI]))(h2:Contract prg 48 [(polyPV p)] (.tup [(lpv (lcell ARat.cells) cha),.nilI]))(h3:Contract prg 30 [bou.pv] neg.pv)(h4:ContractX prg 89 [.pv .nilS,.pv (polyPV p),.pv (lpv (lcell ARat.cells) cha),.pv neg.pv,.pv bou.pv] [] (.row 0 0 z.length 6) [(0,(.pure ((z:List ARange).map ARange.cells).flatten))]):Contract prg 32 [(polyPV p)] (.tup [(lpv ARange.cells z),.nilI]) :=
 Contract.ofL Tryz.func32 (by kernel_rfl) (L.done mixed tabOk (n:=114) (ns:=[1,1,1,1,3]) (tr:=[.reg [],.reg [.none,(.pv (.tup [bou.pv,.nilI]))],.reg [],.auto,.reg [.none,(.pv (.tup [(lpv (lcell ARat.cells) cha),.nilI]))],.reg [],.auto,dr 5 3 [.none,.none,.none,(.pv neg.pv),.none,(.callX [] (some (0,28)) (.row 0 0 z.length 6) [(0,(.pure ((z:List ARange).map ARange.cells).flatten))])],.frzT 2 ((z:List ARange).map ARange.cells)]) (cj h1 (cj h2 (cj h3 (cj h4 (cj (o_frz sz_ARange (z:List ARange) (Eq.refl (z:List ARange).length)) True.intro))))) (by kernel_rfl))
end sturm_Isolate
namespace sturm_check
theorem e0(p:List ARat)(h1:Contract prg 84 [(polyPV p)] .nilI)(h2:p.length=0):Contract prg 46 [(polyPV p)] (.iface 86 (vI 8)) :=
 Contract.ofL Tryz.func46 (by kernel_rfl) (L.done mixed tabOk (n:=105) (ns:=[1,1,1]) (tr:=[.reg [],.reg [.none,(.pv .nilI)],.reg [],.auto,.reg [.none,(iI (p.length:Int))],.dec true,.reg []]) (cj h1 (cj (o_len ARat.cells p) (cj (deqN_t h2) True.intro))) (by kernel_rfl))
theorem e1(p:List ARat)(h1:Contract prg 84 [(polyPV p)] .nilI)(h2:p.length≠0):Contract prg 46 [(polyPV p)] .nilI :=
 Contract.ofL Tryz.func46 (by kernel_rfl) (L.done mixed tabOk (n:=108) (ns:=[1,1,1]) (tr:=[.reg [],.reg [.none,(.pv .nilI)],.reg [],.auto,.reg [.none,(iI (p.length:Int))],.dec false,.reg []]) (cj h1 (cj (o_len ARat.cells p) (cj (deqN_f h2) True.intro))) (by kernel_rfl))
theorem e2(p:List ARat)(che:Int)(h1:Contract prg 84 [(polyPV p)] (.iface 86 (vI che))):Contract prg 46 [(polyPV p)] (.iface 86 (vI che)) :=
 Contract.ofL Tryz.func46 (by kernel_rfl) (L.done mixed tabOk (n:=90) (ns:=[1]) (tr:=[.reg [],.reg [.none,(.pv (.iface 86 (vI che)))],.reg [],.auto,.reg []]) (cj h1 True.intro) (by kernel_rfl))
end sturm_check
namespace sturm_chain
@[reducible] noncomputable def fn:Func:=Tryz.f48
noncomputable def atK1:List Itm:=focus [0,2,0,2,0,0,2,1,2,0,2,0,0,2,1,2,0,2,0,0,0] [.code (bodyOf fn)]
def inv1(d_6:List ARat)(site_28:List (List ARat)):St:=⟨[(6,(.pv (polyPV d_6))),(7,(.row 28 0 site_28.length 1))],[(28,(.pure ((site_28:List (List ARat)).map (lcell ARat.cells)).flatten))]⟩
@[reducible] noncomputable def Loop1(d_6:List ARat)(site_28:List (List ARat))(r:PV):Prop:=L prg fn atK1 (inv1 d_6 site_28) r
theorem e0(p fre der:List ARat){r:PV}(h1:Contract prg 31 [(polyPV p)] (.tup [(polyPV fre),.nilI]))(h2:Contract prg 102 [(polyPV fre)] (.tup [(polyPV der),.nilI]))(hL:Loop1 der [fre] r):Contract prg 48 [(polyPV p)] r :=
 Contract.ofL Tryz.func48 (by kernel_rfl) (L.go mixed tabOk (n:=123) (ns:=[1,1]) (tr:=[.reg [],.reg [.none,(.pv (.tup [(polyPV fre),.nilI]))],.reg [],.auto,.reg [.none,(.pv (.tup [(polyPV der),.nilI]))],.reg [],.auto,.reg [],.keep [6,7]]) (cj h1 (cj h2 True.intro)) (by kernel_rfl) hL)
theorem l10(d_6:List ARat)(site_28:List (List ARat))(k:Nat)(v div div1:List ARat)(of:ARat)(sca:List ARat){r:PV}(h1:0<d_6.length)(h2:((site_28++[d_6]):List (List ARat)).length*24≤140737488355328)(h3:InI64 ((((site_28++[d_6]).length:Nat):Int)-2))(h4:((((site_28++[d_6]).length:Nat):Int)-2)=(k:Int))(h5:k<(site_28++[d_6]).length)(h6:(site_28++[d_6])[k]? = some v)(h7:Contract prg 103 [(polyPV v),(polyPV d_6)] (.tup [(polyPV div),(polyPV div1),.nilI]))(h8:Contract prg 43 [(vI (-1))] of.pv)(h9:Contract prg 104 [(polyPV div1),of.pv] (.tup [(polyPV sca),.nilI]))(hL:Loop1 sca (site_28++[d_6]) r):Loop1 d_6 site_28 r :=
 L.go mixed tabOk (n:=192) (ns:=[1,1,6,1,2,1,1,1,1]) (tr:=[.auto,.reg [.none,(iI (d_6.length:Int))],.dec true,.reg [.none,.none,.none,(.app ((site_28++[d_6]):List (List ARat)).length (((site_28++[d_6]):List (List ARat)).map (lcell ARat.cells)).flatten)],.reg [.none,.none,.none,(iI ((((site_28++[d_6]).length:Nat):Int)-2)),(.nat k),(.ev (.pv (polyPV v))),.none,(.pv (.tup [(polyPV div),(polyPV div1),.nilI]))],.reg [],.auto,.reg [.none,(.pv of.pv),(.pv (.tup [(polyPV sca),.nilI]))],.reg [],.auto,.keep [6,7],.drop [34],.ren 35 28]) (cj (o_len ARat.cells d_6) (cj (dltN_t h1) (cj (o_appR (sz_l ARat.cells) (site_28:List (List ARat)) ([d_6]:List (List ARat)) 24 (Eq.refl (site_28:List (List ARat)).length) (Eq.refl ([d_6]:List (List ARat)).length) h2 rfl) (cj (bs_sub h3) (cj (cj h4 h5) (cj (o_get (enc:=(lcell ARat.cells)) (f:=fun a=>(polyPV a)) (fun _=>rfl) h6) (cj h7 (cj h8 (cj h9 True.intro))))))))) (by kernel_rfl) hL
theorem l13(d_6:List ARat)(site_28:List (List ARat))(h1:d_6.length≤0):Loop1 d_6 site_28 (.tup [(lpv (lcell ARat.cells) site_28),.nilI]) :=
 L.done mixed tabOk (n:=156) (ns:=[1,1,3]) (tr:=[.auto,.reg [.none,(iI (d_6.length:Int))],.dec false,.reg [],.frzT 2 ((site_28:List (List ARat)).map (lcell ARat.cells))]) (cj (o_len ARat.cells d_6) (cj (dltN_f h1) (cj (o_frz (sz_l ARat.cells) (site_28:List (List ARat)) (Eq.refl (site_28:List (List ARat)).length)) True.intro))) (by kernel_rfl)
end sturm_chain
namespace sturm_changes
@[reducible] noncomputable def fn:Func:=Tryz.f49
noncomputable def atK1:List Itm:=focus [0,2,0,2,0,0,2,0,0] [.code (bodyOf fn)]
def inv1(n_5:Nat)(last_6:Int)(l:List (List ARat))(t_12:Nat)(x:ARat):St:=⟨[(3,(.ptr 3 0)),(5,(eI (n_5:Int))),(6,(eI last_6)),(10,(.pv (lpv (lcell ARat.cells) l))),(11,(eI (l.length:Int))),(12,(eI (t_12:Int)))],[(3,(.lit [(eB x.neg),(.pv (wordsPV x.num)),(.pv (wordsPV x.den))]))]⟩
@[reducible] noncomputable def Loop1(n_5:Nat)(last_6:Int)(l:List (List ARat))(t_12:Nat)(x:ARat)(r:PV):Prop:=L prg fn atK1 (inv1 n_5 last_6 l t_12 x) r
theorem e0 (l : List (List ARat)) (x : ARat) {r : PV}  (hL : Loop1 0 0 l 0 x r) : Contract prg 49 [(lpv (lcell ARat.cells) l), x.pv] r :=
 Contract.ofL Tryz.func49 (by kernel_rfl) (L.go mixed tabOk (n:=87) (ns:=[1]) (tr:=[.reg [],.reg [],.reg [.none,(iI (l.length:Int))],.keep [3,5,6,10,11,12]]) (cj (o_len (lcell ARat.cells) l) True.intro) (by kernel_rfl) hL)
theorem l10(n_5:Nat)(last_6:Int)(l:List (List ARat))(t_12:Nat)(x:ARat)(v:List ARat)(val:Int){r:PV}(h1:t_12<l.length)(h2:l[t_12]? = some v)(h3:Contract prg 64 [(polyPV v),x.pv] (vI val))(h4:val≠0)(h5:InI64 (-last_6))(h6:val=(-last_6))(h7:(n_5+1)<9223372036854775808)(h8:(t_12+1)<9223372036854775808)(hL:Loop1 (n_5+1) val l (t_12+1) x r):Loop1 n_5 last_6 l t_12 x r :=
 L.go mixed tabOk (n:=156) (ns:=[1,3,1,1,1,1,1,1]) (tr:=[.auto,.reg [],.dec true,.reg [(.row t_12 ((lcell ARat.cells) v))],.reg [.none,.none,(.pv (vI val))],.reg [],.dec true,.reg [.none,.none,(iI (-last_6))],.dec true,.reg [.none,(iI (((n_5+1):Nat):Int))],.reg [],.reg [(iI (((t_12+1):Nat):Int))],.keep [3,5,6,10,11,12]]) (cj (dltN_t h1) (cj (o_at (lcell ARat.cells) (Eq.refl (((t_12:Nat):Int):Int)) h2) (cj h3 (cj (dne_t h4) (cj (us_neg h5) (cj (deq_t h6) (cj (bs_addN h7) (cj (bs_addN h8) True.intro)))))))) (by kernel_rfl) hL
theorem l11(n_5:Nat)(last_6:Int)(l:List (List ARat))(t_12:Nat)(x:ARat)(v:List ARat)(val:Int){r:PV}(h1:t_12<l.length)(h2:l[t_12]? = some v)(h3:Contract prg 64 [(polyPV v),x.pv] (vI val))(h4:val≠0)(h5:InI64 (-last_6))(h6:val≠(-last_6))(h7:(t_12+1)<9223372036854775808)(hL:Loop1 n_5 val l (t_12+1) x r):Loop1 n_5 last_6 l t_12 x r :=
 L.go mixed tabOk (n:=156) (ns:=[1,3,1,1,1,1,1]) (tr:=[.auto,.reg [],.dec true,.reg [(.row t_12 ((lcell ARat.cells) v))],.reg [.none,.none,(.pv (vI val))],.reg [],.dec true,.reg [.none,.none,(iI (-last_6))],.dec false,.reg [],.reg [(iI (((t_12+1):Nat):Int))],.keep [3,5,6,10,11,12]]) (cj (dltN_t h1) (cj (o_at (lcell ARat.cells) (Eq.refl (((t_12:Nat):Int):Int)) h2) (cj h3 (cj (dne_t h4) (cj (us_neg h5) (cj (deq_f h6) (cj (bs_addN h7) True.intro))))))) (by kernel_rfl) hL
theorem l12(n_5:Nat)(last_6:Int)(l:List (List ARat))(t_12:Nat)(x:ARat)(v:List ARat)(val:Int){r:PV}(h1:t_12<l.length)(h2:l[t_12]? = some v)(h3:Contract prg 64 [(polyPV v),x.pv] (vI val))(h4:val=0)(h5:(t_12+1)<9223372036854775808)(hL:Loop1 n_5 last_6 l (t_12+1) x r):Loop1 n_5 last_6 l t_12 x r :=
 L.go mixed tabOk (n:=141) (ns:=[1,3,1,1,1]) (tr:=[.auto,.reg [],.dec true,.reg [(.row t_12 ((lcell ARat.cells) v))],.reg [.none,.none,(.pv (vI val))],.reg [],.dec false,.reg [(iI (((t_12+1):Nat):Int))],.keep [3,5,6,10,11,12]]) (cj (dltN_t h1) (cj (o_at (lcell ARat.cells) (Eq.refl (((t_12:Nat):Int):Int)) h2) (cj h3 (cj (dne_f h4) (cj (bs_addN h5) True.intro))))) (by kernel_rfl) hL
theorem l13(n_5:Nat)(last_6:Int)(l:List (List ARat))(t_12:Nat)(x:ARat)(h1:l.length≤t_12):Loop1 n_5 last_6 l t_12 x (vI (n_5:Int)) :=
 L.done mixed tabOk (n:=120) (ns:=[1]) (tr:=[.auto,.reg [],.dec false,.reg []]) (cj (dltN_f h1) True.intro) (by kernel_rfl)
end sturm_changes
namespace sturm_isolating
theorem e0(p:List ARat)(rV:ARange)(val:Bool)(h1:Contract prg 117 [rV.pv] (vB val))(h2:val=false):Contract prg 61 [(polyPV p),rV.pv] (.tup [(vB false),.nilI]) :=
 Contract.ofL Tryz.func61 (by kernel_rfl) (L.done mixed tabOk (n:=84) (ns:=[1,1]) (tr:=[.reg [],.reg [.none,(.pv (vB val))],.dec true,.reg []]) (cj h1 (cj (bnot_t h2) True.intro)) (by kernel_rfl))
theorem e1(p:List ARat)(rV:ARange)(val:Bool)(cmp val1:Int)(h1:Contract prg 117 [rV.pv] (vB val))(h2:val=true)(h3:Contract prg 37 [rV.lo.pv,rV.hi.pv] (vI cmp))(h4:cmp=0)(h5:Contract prg 64 [(polyPV p),rV.lo.pv] (vI val1)):Contract prg 61 [(polyPV p),rV.pv] (.tup [(vB (val1==0)),.nilI]) :=
 Contract.ofL Tryz.func61 (by kernel_rfl) (L.done mixed tabOk (n:=99) (ns:=[1,1,1,1,1]) (tr:=[.reg [],.reg [.none,(.pv (vB val))],.dec false,.reg [.none,.none,.none,.none,(.pv (vI cmp))],.dec true,.reg [.none,.none,.none,(.pv (vI val1))]]) (cj h1 (cj (bnot_f h2) (cj h3 (cj (deq_t h4) (cj h5 True.intro))))) (by kernel_rfl))
theorem e2(p:List ARat)(rV:ARange)(val:Bool)(cmp:Int)(fre:List ARat)(val1 val2:Int)(h1:Contract prg 117 [rV.pv] (vB val))(h2:val=true)(h3:Contract prg 37 [rV.lo.pv,rV.hi.pv] (vI cmp))(h4:cmp≠0)(h5:Contract prg 31 [(polyPV p)] (.tup [(polyPV fre),.nilI]))(h6:Contract prg 64 [(polyPV fre),rV.lo.pv] (vI val1))(h7:Contract prg 64 [(polyPV fre),rV.hi.pv] (vI val2))(h8:InI64 (val1*val2))(h9:(val1*val2)≠(-1)):Contract prg 61 [(polyPV p),rV.pv] (.tup [(vB false),.nilI]) :=
 Contract.ofL Tryz.func61 (by kernel_rfl) (L.done mixed tabOk (n:=135) (ns:=[1,1,1,1,1,1,1,1,1]) (tr:=[.reg [],.reg [.none,(.pv (vB val))],.dec false,.reg [.none,.none,.none,.none,(.pv (vI cmp))],.dec false,.reg [.none,(.pv (.tup [(polyPV fre),.nilI]))],.reg [],.auto,dr 10 0 [.none,.none,.none,(.pv (vI val1)),.none,.none,.none,(.pv (vI val2)),(iI (val1*val2))],.dec true,.reg []]) (cj h1 (cj (bnot_f h2) (cj h3 (cj (deq_f h4) (cj h5 (cj h6 (cj h7 (cj (bs_mul h8) (cj (dne_t h9) True.intro))))))))) (by kernel_rfl))
theorem e3(p:List ARat)(rV:ARange)(val:Bool)(cmp:Int)(fre:List ARat)(val1 val2 cou:Int)(cou1:Option Int)(h1:Contract prg 117 [rV.pv] (vB val))(h2:val=true)(h3:Contract prg 37 [rV.lo.pv,rV.hi.pv] (vI cmp))(h4:cmp≠0)(h5:Contract prg 31 [(polyPV p)] (.tup [(polyPV fre),.nilI]))(h6:Contract prg 64 [(polyPV fre),rV.lo.pv] (vI val1))(h7:Contract prg 64 [(polyPV fre),rV.hi.pv] (vI val2))(h8:InI64 (val1*val2))(h9:(val1*val2)=(-1))(h10:Contract prg 13 [(polyPV p),rV.lo.pv,rV.hi.pv] (.tup [(vI cou),(errPV cou1)])):Contract prg 61 [(polyPV p),rV.pv] (.tup [(vB (cou==1)),(errPV cou1)]) :=
 Contract.ofL Tryz.func61 (by kernel_rfl) (L.done mixed tabOk (n:=144) (ns:=[1,1,1,1,1,1,1,1,1,1]) (tr:=[.reg [],.reg [.none,(.pv (vB val))],.dec false,.reg [.none,.none,.none,.none,(.pv (vI cmp))],.dec false,.reg [.none,(.pv (.tup [(polyPV fre),.nilI]))],.reg [],.auto,dr 10 0 [.none,.none,.none,(.pv (vI val1)),.none,.none,.none,(.pv (vI val2)),(iI (val1*val2))],.dec false,.reg [.none,.none,.none,.none,.none,(.pv (.tup [(vI cou),(errPV cou1)]))],.reg []]) (cj h1 (cj (bnot_f h2) (cj h3 (cj (deq_f h4) (cj h5 (cj h6 (cj h7 (cj (bs_mul h8) (cj (dne_f h9) (cj h10 True.intro)))))))))) (by kernel_rfl))
end sturm_isolating
namespace sturm_value
theorem e0(p:List ARat)(x eva:ARat)(eva1:Option Int)(sig:Int)(h1:Contract prg 118 [(polyPV p),x.pv] (.tup [eva.pv,(errPV eva1)]))(h2:Contract prg 105 [eva.pv] (vI sig)):Contract prg 64 [(polyPV p),x.pv] (vI sig) :=
 Contract.ofL Tryz.func64 (by kernel_rfl) (L.done mixed tabOk (n:=78) (ns:=[1,1]) (tr:=[.reg [],.reg [.none,.none,(.pv (.tup [eva.pv,(errPV eva1)]))],.reg [.none,(.pv (vI sig))]]) (cj h1 (cj h2 True.intro)) (by kernel_rfl))
end sturm_value
namespace sturm_searchN
@[reducible] noncomputable def fn:Func:=Tryz.f89
theorem e0(p:List ARat)(l:List (List ARat))(lo hi:ARat)(cha cha1:Int)(h1:Contract prg 49 [(lpv (lcell ARat.cells) l),lo.pv] (vI cha))(h2:Contract prg 49 [(lpv (lcell ARat.cells) l),hi.pv] (vI cha1))(h3:InI64 (cha-cha1))(h4:(cha-cha1)=0):ContractX prg 89 [(.pv .nilS),(.pv (polyPV p)),(.pv (lpv (lcell ARat.cells) l)),(.pv lo.pv),(.pv hi.pv)] [] (.row 0 0 0 6) [(0,(.pure (([]:List ARange).map ARange.cells).flatten))] :=
 ContractX.ofL Tryz.func89 (by kernel_rfl) (LX.done mixed tabOk (n:=90) (ns:=[1,1,1,1]) (tr:=[.adopt 0 1 6,.reg [],dr 7 1 [.none,.none,(.pv (vI cha)),.none,.none,(.pv (vI cha1)),(iI (cha-cha1))],.reg [],.dec true,.reg [],.ren 1 0,.drop [9,8],.ord [0]]) rfl (cj h1 (cj h2 (cj (bs_sub h3) (cj (deq_t h4) True.intro)))) (by kernel_rfl))
theorem e1(p:List ARat)(l:List (List ARat))(lo hi:ARat)(cha cha1 val val1:Int)(poi:ARange)(h1:Contract prg 49 [(lpv (lcell ARat.cells) l),lo.pv] (vI cha))(h2:Contract prg 49 [(lpv (lcell ARat.cells) l),hi.pv] (vI cha1))(h3:InI64 (cha-cha1))(h4:(cha-cha1)≠0)(h5:(cha-cha1)=1)(h6:Contract prg 64 [(polyPV p),lo.pv] (vI val))(h7:val≠0)(h8:Contract prg 64 [(polyPV p),hi.pv] (vI val1))(h9:val1=0)(h10:Contract prg 66 [hi.pv] poi.pv)(h11:(([]:List ARange)++[poi]:List ARange).length*112≤140737488355328):ContractX prg 89 [(.pv .nilS),(.pv (polyPV p)),(.pv (lpv (lcell ARat.cells) l)),(.pv lo.pv),(.pv hi.pv)] [] (.row 0 0 ([poi].length) 6) [(0,(.pure (([poi]:List ARange).map ARange.cells).flatten))] :=
 ContractX.ofL Tryz.func89 (by kernel_rfl) (LX.done mixed tabOk (n:=117) (ns:=[1,1,1,1,1,1,1,1,1,1,1,1,1,1,6]) (tr:=[.adopt 0 1 6,.reg [],dr 7 1 [.none,.none,(.pv (vI cha)),.none,.none,(.pv (vI cha1)),(iI (cha-cha1))],.reg [],.dec false,.reg [.none,.none,.none,.none,.none,(.pv (vI val)),.none,(.dec true)],.dec true,.reg [.none,.none,(.pv (vI val1))],.dec true,.reg [.none,.none,(.pv poi.pv),.none,(.app ([poi]:List ARange).length (([poi]:List ARange).map ARange.cells).flatten)],.ren 39 0,.drop [38,9,8],.ord [0]]) rfl (cj h1 (cj h2 (cj (bs_sub h3) (cj (deq_f h4) (cj (deq_t h5) (cj (deq_t h5) (cj (deq_t h5) (cj h6 (cj (deq_t h5) (cj (deq_t h5) (cj (dne_t h7) (cj h8 (cj (deq_t h9) (cj h10 (cj (o_appR sz_ARange ([]:List ARange) ([poi]:List ARange) 112 (Eq.refl ([]:List ARange).length) (Eq.refl ([poi]:List ARange).length) h11 rfl) True.intro))))))))))))))) (by kernel_rfl))
theorem e2(p:List ARat)(l:List (List ARat))(lo hi:ARat)(cha cha1 val val1:Int)(add add1:ARat)(h1:Contract prg 49 [(lpv (lcell ARat.cells) l),lo.pv] (vI cha))(h2:Contract prg 49 [(lpv (lcell ARat.cells) l),hi.pv] (vI cha1))(h3:InI64 (cha-cha1))(h4:(cha-cha1)≠0)(h5:(cha-cha1)=1)(h6:Contract prg 64 [(polyPV p),lo.pv] (vI val))(h7:val≠0)(h8:Contract prg 64 [(polyPV p),hi.pv] (vI val1))(h9:val1≠0)(h10:Contract prg 29 [lo.pv,(⟨false,[],[]⟩:ARat).pv] add.pv)(h11:Contract prg 29 [hi.pv,(⟨false,[],[]⟩:ARat).pv] add1.pv)(h12:(([]:List ARange)++[(⟨add,add1⟩:ARange)]:List ARange).length*112≤140737488355328):ContractX prg 89 [(.pv .nilS),(.pv (polyPV p)),(.pv (lpv (lcell ARat.cells) l)),(.pv lo.pv),(.pv hi.pv)] [] (.row 0 0 ([(⟨add,add1⟩:ARange)].length) 6) [(0,(.pure (([(⟨add,add1⟩:ARange)]:List ARange).map ARange.cells).flatten))] :=
 ContractX.ofL Tryz.func89 (by kernel_rfl) (LX.done mixed tabOk (n:=120) (ns:=[1,1,1,1,1,1,1,1,1,1,1,1,1,1,1,6]) (tr:=[.adopt 0 1 6,.reg [],dr 7 1 [.none,.none,(.pv (vI cha)),.none,.none,(.pv (vI cha1)),(iI (cha-cha1))],.reg [],.dec false,.reg [.none,.none,.none,.none,.none,(.pv (vI val)),.none,(.dec true)],.dec true,.reg [.none,.none,(.pv (vI val1))],.dec false,dr 9 2 [.none,.none,.none,(.pv add.pv),.none,.none,(.pv add1.pv),.none,.none,(.app ([(⟨add,add1⟩:ARange)]:List ARange).length (([(⟨add,add1⟩:ARange)]:List ARange).map ARange.cells).flatten)],.ren 49 0,.drop [48,9,8],.ord [0]]) rfl (cj h1 (cj h2 (cj (bs_sub h3) (cj (deq_f h4) (cj (deq_t h5) (cj (deq_t h5) (cj (deq_t h5) (cj h6 (cj (deq_t h5) (cj (deq_t h5) (cj (dne_t h7) (cj h8 (cj (deq_f h9) (cj h10 (cj h11 (cj (o_appR sz_ARange ([]:List ARange) ([(⟨add,add1⟩:ARange)]:List ARange) 112 (Eq.refl ([]:List ARange).length) (Eq.refl ([(⟨add,add1⟩:ARange)]:List ARange).length) h12 rfl) True.intro)))))))))))))))) (by kernel_rfl))
theorem e3_any0(p:List ARat)(l:List (List ARat))(lo hi mid:ARat)(z z1:List ARange):anyL prg tab fn.ntmps (opsAt (focus [0,2,0,2,0,0,2,1,2,0,0,2,1,2,0,2,0] [.code (bodyOf fn)])) (allF (opsAt (focus [0,2,0,2,0,0,2,1,2,0,0,2,1,2,0,2,0] [.code (bodyOf fn)])) [0,1,2,6,7]) (downs (opsAt (focus [0,2,0,2,0,0,2,1,2,0,0,2,1,2,0,2,0] [.code (bodyOf fn)])) [0,1,2,6,7]) [.none,.none,.none,.none,.none,(.callX [(1,200000)] (some (0,59)) (.row 0 0 z.length 6) [(0,(.pure ((z:List ARange).map ARange.cells).flatten))]),.none,.none,.none,.none,(.callX [(59,200000)] (some (0,64)) (.row 0 0 z1.length 6) [(0,(.pure ((z1:List ARange).map ARange.cells).flatten))]),.none] (flS tab fn.ntmps (opsAt (focus [0,2,0,2,0,0,2,1,2,0,0,2,1,2,0,2,0] [.code (bodyOf fn)])) [0,1,2,6,7] ⟨[(0,(.row 1 0 0 6)),(1,(.pv (polyPV p))),(2,(.pv (lpv (lcell ARat.cells) l))),(8,(.ptr 8 0)),(9,(.ptr 9 0)),(12,(.ptr 12 0))],[(12,(.lit [(eB mid.neg),(.pv (wordsPV mid.num)),(.pv (wordsPV mid.den))])),(9,(.lit [(eB hi.neg),(.pv (wordsPV hi.num)),(.pv (wordsPV hi.den))])),(8,(.lit [(eB lo.neg),(.pv (wordsPV lo.num)),(.pv (wordsPV lo.den))])),(1,(.pure (([]:List ARange).map ARange.cells).flatten))]⟩)=anyR prg tab fn.ntmps (opsAt (focus [0,2,0,2,0,0,2,1,2,0,0,2,1,2,0,2,0] [.code (bodyOf fn)])) (allF (opsAt (focus [0,2,0,2,0,0,2,1,2,0,0,2,1,2,0,2,0] [.code (bodyOf fn)])) [0,1,2,6,7]) (downs (opsAt (focus [0,2,0,2,0,0,2,1,2,0,0,2,1,2,0,2,0] [.code (bodyOf fn)])) [0,1,2,6,7]) [.none,.none,.none,.none,.none,(.callX [(1,200000)] (some (0,59)) (.row 0 0 z.length 6) [(0,(.pure ((z:List ARange).map ARange.cells).flatten))]),.none,.none,.none,.none,(.callX [(59,200000)] (some (0,64)) (.row 0 0 z1.length 6) [(0,(.pure ((z1:List ARange).map ARange.cells).flatten))]),.none] (flS tab fn.ntmps (opsAt (focus [0,2,0,2,0,0,2,1,2,0,0,2,1,2,0,2,0] [.code (bodyOf fn)])) [0,1,2,6,7] ⟨[(0,(.row 1 0 0 6)),(1,(.pv (polyPV p))),(2,(.pv (lpv (lcell ARat.cells) l))),(8,(.ptr 8 0)),(9,(.ptr 9 0)),(12,(.ptr 12 0))],[(12,(.lit [(eB mid.neg),(.pv (wordsPV mid.num)),(.pv (wordsPV mid.den))])),(9,(.lit [(eB hi.neg),(.pv (wordsPV hi.num)),(.pv (wordsPV hi.den))])),(8,(.lit [(eB lo.neg),(.pv (wordsPV lo.num)),(.pv (wordsPV lo.den))])),(1,(.pure (([]:List ARange).map ARange.cells).flatten))]⟩):=by kernel_rfl
theorem e3(p:List ARat)(l:List (List ARat))(lo hi:ARat)(cha cha1 val:Int)(mid:ARat)(z z1:List ARange)(h1:Contract prg 49 [(lpv (lcell ARat.cells) l),lo.pv] (vI cha))(h2:Contract prg 49 [(lpv (lcell ARat.cells) l),hi.pv] (vI cha1))(h3:InI64 (cha-cha1))(h4:(cha-cha1)≠0)(h5:(cha-cha1)=1)(h6:Contract prg 64 [(polyPV p),lo.pv] (vI val))(h7:val=0)(h8:Contract prg 65 [(⟨lo,hi⟩:ARange).pv] mid.pv)(h9:ContractX prg 89 [.row 200000 0 0 6,.pv (polyPV p),.pv (lpv (lcell ARat.cells) l),.pv lo.pv,.pv mid.pv] [(200000,(.pure (([]:List ARange).map ARange.cells).flatten))] (.row 0 0 z.length 6) [(0,(.pure ((z:List ARange).map ARange.cells).flatten))])(h10:ContractX prg 89 [.row 200000 0 z.length 6,.pv (polyPV p),.pv (lpv (lcell ARat.cells) l),.pv mid.pv,.pv hi.pv] [(200000,(.pure ((z:List ARange).map ARange.cells).flatten))] (.row 0 0 z1.length 6) [(0,(.pure ((z1:List ARange).map ARange.cells).flatten))]):ContractX prg 89 [(.pv .nilS),(.pv (polyPV p)),(.pv (lpv (lcell ARat.cells) l)),(.pv lo.pv),(.pv hi.pv)] [] (.row 0 0 z1.length 6) [(0,(.pure ((z1:List ARange).map ARange.cells).flatten))] :=
 ContractX.ofL Tryz.func89 (by kernel_rfl) (LX.done mixed tabOk (n:=114) (ns:=[1,1,1,1,1,1,1,1,1,1,1,1,1,1,1]) (tr:=[.adopt 0 1 6,.reg [],dr 7 1 [.none,.none,(.pv (vI cha)),.none,.none,(.pv (vI cha1)),(iI (cha-cha1))],.reg [],.dec false,.reg [.none,.none,.none,.none,.none,(.pv (vI val)),.none,(.dec true)],.dec false,.reg [.none,.none,.none,(.pv mid.pv)],.keep [0,1,2,8,9,12],.any [0,1,2,6,7] [.none,.none,.none,.none,.none,(.callX [(1,200000)] (some (0,59)) (.row 0 0 z.length 6) [(0,(.pure ((z:List ARange).map ARange.cells).flatten))]),.none,.none,.none,.none,(.callX [(59,200000)] (some (0,64)) (.row 0 0 z1.length 6) [(0,(.pure ((z1:List ARange).map ARange.cells).flatten))]),.none],.ren 64 0,.drop [12,9,8],.ord [0]]) rfl (cj h1 (cj h2 (cj (bs_sub h3) (cj (deq_f h4) (cj (deq_t h5) (cj (deq_t h5) (cj (deq_t h5) (cj h6 (cj (deq_t h5) (cj (deq_t h5) (cj (dne_f h7) (cj h8 (cj h9 (cj h10 (cj (e3_any0 p l lo hi mid z z1) True.intro))))))))))))))) (by kernel_rfl))
theorem e4_any0(p:List ARat)(l:List (List ARat))(lo hi mid:ARat)(z z1:List ARange):anyL prg tab fn.ntmps (opsAt (focus [0,2,0,2,0,0,2,1,2,0,0,2,1,2,0,2,0] [.code (bodyOf fn)])) (allF (opsAt (focus [0,2,0,2,0,0,2,1,2,0,0,2,1,2,0,2,0] [.code (bodyOf fn)])) [0,1,2,6,7]) (downs (opsAt (focus [0,2,0,2,0,0,2,1,2,0,0,2,1,2,0,2,0] [.code (bodyOf fn)])) [0,1,2,6,7]) [.none,.none,.none,.none,.none,(.callX [(1,200000)] (some (0,59)) (.row 0 0 z.length 6) [(0,(.pure ((z:List ARange).map ARange.cells).flatten))]),.none,.none,.none,.none,(.callX [(59,200000)] (some (0,64)) (.row 0 0 z1.length 6) [(0,(.pure ((z1:List ARange).map ARange.cells).flatten))]),.none] (flS tab fn.ntmps (opsAt (focus [0,2,0,2,0,0,2,1,2,0,0,2,1,2,0,2,0] [.code (bodyOf fn)])) [0,1,2,6,7] ⟨[(0,(.row 1 0 0 6)),(1,(.pv (polyPV p))),(2,(.pv (lpv (lcell ARat.cells) l))),(8,(.ptr 8 0)),(9,(.ptr 9 0)),(12,(.ptr 12 0))],[(12,(.lit [(eB mid.neg),(.pv (wordsPV mid.num)),(.pv (wordsPV mid.den))])),(9,(.lit [(eB hi.neg),(.pv (wordsPV hi.num)),(.pv (wordsPV hi.den))])),(8,(.lit [(eB lo.neg),(.pv (wordsPV lo.num)),(.pv (wordsPV lo.den))])),(1,(.pure (([]:List ARange).map ARange.cells).flatten))]⟩)=anyR prg tab fn.ntmps (opsAt (focus [0,2,0,2,0,0,2,1,2,0,0,2,1,2,0,2,0] [.code (bodyOf fn)])) (allF (opsAt (focus [0,2,0,2,0,0,2,1,2,0,0,2,1,2,0,2,0] [.code (bodyOf fn)])) [0,1,2,6,7]) (downs (opsAt (focus [0,2,0,2,0,0,2,1,2,0,0,2,1,2,0,2,0] [.code (bodyOf fn)])) [0,1,2,6,7]) [.none,.none,.none,.none,.none,(.callX [(1,200000)] (some (0,59)) (.row 0 0 z.length 6) [(0,(.pure ((z:List ARange).map ARange.cells).flatten))]),.none,.none,.none,.none,(.callX [(59,200000)] (some (0,64)) (.row 0 0 z1.length 6) [(0,(.pure ((z1:List ARange).map ARange.cells).flatten))]),.none] (flS tab fn.ntmps (opsAt (focus [0,2,0,2,0,0,2,1,2,0,0,2,1,2,0,2,0] [.code (bodyOf fn)])) [0,1,2,6,7] ⟨[(0,(.row 1 0 0 6)),(1,(.pv (polyPV p))),(2,(.pv (lpv (lcell ARat.cells) l))),(8,(.ptr 8 0)),(9,(.ptr 9 0)),(12,(.ptr 12 0))],[(12,(.lit [(eB mid.neg),(.pv (wordsPV mid.num)),(.pv (wordsPV mid.den))])),(9,(.lit [(eB hi.neg),(.pv (wordsPV hi.num)),(.pv (wordsPV hi.den))])),(8,(.lit [(eB lo.neg),(.pv (wordsPV lo.num)),(.pv (wordsPV lo.den))])),(1,(.pure (([]:List ARange).map ARange.cells).flatten))]⟩):=by kernel_rfl
theorem e4(p:List ARat)(l:List (List ARat))(lo hi:ARat)(cha cha1:Int)(mid:ARat)(z z1:List ARange)(h1:Contract prg 49 [(lpv (lcell ARat.cells) l),lo.pv] (vI cha))(h2:Contract prg 49 [(lpv (lcell ARat.cells) l),hi.pv] (vI cha1))(h3:InI64 (cha-cha1))(h4:(cha-cha1)≠0)(h5:(cha-cha1)≠1)(h6:Contract prg 65 [(⟨lo,hi⟩:ARange).pv] mid.pv)(h7:ContractX prg 89 [.row 200000 0 0 6,.pv (polyPV p),.pv (lpv (lcell ARat.cells) l),.pv lo.pv,.pv mid.pv] [(200000,(.pure (([]:List ARange).map ARange.cells).flatten))] (.row 0 0 z.length 6) [(0,(.pure ((z:List ARange).map ARange.cells).flatten))])(h8:ContractX prg 89 [.row 200000 0 z.length 6,.pv (polyPV p),.pv (lpv (lcell ARat.cells) l),.pv mid.pv,.pv hi.pv] [(200000,(.pure ((z:List ARange).map ARange.cells).flatten))] (.row 0 0 z1.length 6) [(0,(.pure ((z1:List ARange).map ARange.cells).flatten))]):ContractX prg 89 [(.pv .nilS),(.pv (polyPV p)),(.pv (lpv (lcell ARat.cells) l)),(.pv lo.pv),(.pv hi.pv)] [] (.row 0 0 z1.length 6) [(0,(.pure ((z1:List ARange).map ARange.cells).flatten))] :=
 ContractX.ofL Tryz.func89 (by kernel_rfl) (LX.done mixed tabOk (n:=114) (ns:=[1,1,1,1,1,1,1,1,1,1,1,1,1]) (tr:=[.adopt 0 1 6,.reg [],dr 7 1 [.none,.none,(.pv (vI cha)),.none,.none,(.pv (vI cha1)),(iI (cha-cha1))],.reg [],.dec false,.reg [.none,.none,.none,.skip,.skip,.skip,.skip,(.dec false)],.auto,.reg [.none,.none,.none,(.pv mid.pv)],.keep [0,1,2,8,9,12],.any [0,1,2,6,7] [.none,.none,.none,.none,.none,(.callX [(1,200000)] (some (0,59)) (.row 0 0 z.length 6) [(0,(.pure ((z:List ARange).map ARange.cells).flatten))]),.none,.none,.none,.none,(.callX [(59,200000)] (some (0,64)) (.row 0 0 z1.length 6) [(0,(.pure ((z1:List ARange).map ARange.cells).flatten))]),.none],.ren 64 0,.drop [12,9,8],.ord [0]]) rfl (cj h1 (cj h2 (cj (bs_sub h3) (cj (deq_f h4) (cj (deq_f h5) (cj (deq_f h5) (cj (deq_f h5) (cj (deq_f h5) (cj (deq_f h5) (cj h6 (cj h7 (cj h8 (cj (e4_any0 p l lo hi mid z z1) True.intro))))))))))))) (by kernel_rfl))
end sturm_searchN
namespace sturm_searchG
@[reducible] noncomputable def fn:Func:=Tryz.f89
theorem e0(out:List ARange)(p:List ARat)(l:List (List ARat))(lo hi:ARat)(cha cha1:Int)(h1:Contract prg 49 [(lpv (lcell ARat.cells) l),lo.pv] (vI cha))(h2:Contract prg 49 [(lpv (lcell ARat.cells) l),hi.pv] (vI cha1))(h3:InI64 (cha-cha1))(h4:(cha-cha1)=0):ContractX prg 89 [(.row 200000 0 out.length 6),(.pv (polyPV p)),(.pv (lpv (lcell ARat.cells) l)),(.pv lo.pv),(.pv hi.pv)] [(200000,(.pure ((out:List ARange).map ARange.cells).flatten))] (.row 0 0 out.length 6) [(0,(.pure ((out:List ARange).map ARange.cells).flatten))] :=
 ContractX.ofL Tryz.func89 (by kernel_rfl) (LX.done mixed tabOk (n:=90) (ns:=[1,1,1,1]) (tr:=[.ren 200000 1,.reg [],dr 7 1 [.none,.none,(.pv (vI cha)),.none,.none,(.pv (vI cha1)),(iI (cha-cha1))],.reg [],.dec true,.reg [],.ren 1 0,.drop [9,8],.ord [0]]) rfl (cj h1 (cj h2 (cj (bs_sub h3) (cj (deq_t h4) True.intro)))) (by kernel_rfl))
theorem e1(out:List ARange)(p:List ARat)(l:List (List ARat))(lo hi:ARat)(cha cha1 val val1:Int)(poi:ARange)(h1:Contract prg 49 [(lpv (lcell ARat.cells) l),lo.pv] (vI cha))(h2:Contract prg 49 [(lpv (lcell ARat.cells) l),hi.pv] (vI cha1))(h3:InI64 (cha-cha1))(h4:(cha-cha1)≠0)(h5:(cha-cha1)=1)(h6:Contract prg 64 [(polyPV p),lo.pv] (vI val))(h7:val≠0)(h8:Contract prg 64 [(polyPV p),hi.pv] (vI val1))(h9:val1=0)(h10:Contract prg 66 [hi.pv] poi.pv)(h11:((out++[poi]):List ARange).length*112≤140737488355328):ContractX prg 89 [(.row 200000 0 out.length 6),(.pv (polyPV p)),(.pv (lpv (lcell ARat.cells) l)),(.pv lo.pv),(.pv hi.pv)] [(200000,(.pure ((out:List ARange).map ARange.cells).flatten))] (.row 0 0 ((out++[poi]).length) 6) [(0,(.pure (((out++[poi]):List ARange).map ARange.cells).flatten))] :=
 ContractX.ofL Tryz.func89 (by kernel_rfl) (LX.done mixed tabOk (n:=117) (ns:=[1,1,1,1,1,1,1,1,1,1,1,1,1,1,6]) (tr:=[.ren 200000 1,.reg [],dr 7 1 [.none,.none,(.pv (vI cha)),.none,.none,(.pv (vI cha1)),(iI (cha-cha1))],.reg [],.dec false,.reg [.none,.none,.none,.none,.none,(.pv (vI val)),.none,(.dec true)],.dec true,.reg [.none,.none,(.pv (vI val1))],.dec true,.reg [.none,.none,(.pv poi.pv),.none,(.app ((out++[poi]):List ARange).length (((out++[poi]):List ARange).map ARange.cells).flatten)],.ren 39 0,.drop [38,9,8],.ord [0]]) rfl (cj h1 (cj h2 (cj (bs_sub h3) (cj (deq_f h4) (cj (deq_t h5) (cj (deq_t h5) (cj (deq_t h5) (cj h6 (cj (deq_t h5) (cj (deq_t h5) (cj (dne_t h7) (cj h8 (cj (deq_t h9) (cj h10 (cj (o_appR sz_ARange (out:List ARange) ([poi]:List ARange) 112 (Eq.refl (out:List ARange).length) (Eq.refl ([poi]:List ARange).length) h11 rfl) True.intro))))))))))))))) (by kernel_rfl))
theorem e2(out:List ARange)(p:List ARat)(l:List (List ARat))(lo hi:ARat)(cha cha1 val val1:Int)(add add1:ARat)(h1:Contract prg 49 [(lpv (lcell ARat.cells) l),lo.pv] (vI cha))(h2:Contract prg 49 [(lpv (lcell ARat.cells) l),hi.pv] (vI cha1))(h3:InI64 (cha-cha1))(h4:(cha-cha1)≠0)(h5:(cha-cha1)=1)(h6:Contract prg 64 [(polyPV p),lo.pv] (vI val))(h7:val≠0)(h8:Contract prg 64 [(polyPV p),hi.pv] (vI val1))(h9:val1≠0)(h10:Contract prg 29 [lo.pv,(⟨false,[],[]⟩:ARat).pv] add.pv)(h11:Contract prg 29 [hi.pv,(⟨false,[],[]⟩:ARat).pv] add1.pv)(h12:((out++[(⟨add,add1⟩:ARange)]):List ARange).length*112≤140737488355328):ContractX prg 89 [(.row 200000 0 out.length 6),(.pv (polyPV p)),(.pv (lpv (lcell ARat.cells) l)),(.pv lo.pv),(.pv hi.pv)] [(200000,(.pure ((out:List ARange).map ARange.cells).flatten))] (.row 0 0 ((out++[(⟨add,add1⟩:ARange)]).length) 6) [(0,(.pure (((out++[(⟨add,add1⟩:ARange)]):List ARange).map ARange.cells).flatten))] :=
 ContractX.ofL Tryz.func89 (by kernel_rfl) (LX.done mixed tabOk (n:=120) (ns:=[1,1,1,1,1,1,1,1,1,1,1,1,1,1,1,6]) (tr:=[.ren 200000 1,.reg [],dr 7 1 [.none,.none,(.pv (vI cha)),.none,.none,(.pv (vI cha1)),(iI (cha-cha1))],.reg [],.dec false,.reg [.none,.none,.none,.none,.none,(.pv (vI val)),.none,(.dec true)],.dec true,.reg [.none,.none,(.pv (vI val1))],.dec false,dr 9 2 [.none,.none,.none,(.pv add.pv),.none,.none,(.pv add1.pv),.none,.none,(.app ((out++[(⟨add,add1⟩:ARange)]):List ARange).length (((out++[(⟨add,add1⟩:ARange)]):List ARange).map ARange.cells).flatten)],.ren 49 0,.drop [48,9,8],.ord [0]]) rfl (cj h1 (cj h2 (cj (bs_sub h3) (cj (deq_f h4) (cj (deq_t h5) (cj (deq_t h5) (cj (deq_t h5) (cj h6 (cj (deq_t h5) (cj (deq_t h5) (cj (dne_t h7) (cj h8 (cj (deq_f h9) (cj h10 (cj h11 (cj (o_appR sz_ARange (out:List ARange) ([(⟨add,add1⟩:ARange)]:List ARange) 112 (Eq.refl (out:List ARange).length) (Eq.refl ([(⟨add,add1⟩:ARange)]:List ARange).length) h12 rfl) True.intro)))))))))))))))) (by kernel_rfl))
theorem e3_any0(out:List ARange)(p:List ARat)(l:List (List ARat))(lo hi mid:ARat)(z z1:List ARange):anyL prg tab fn.ntmps (opsAt (focus [0,2,0,2,0,0,2,1,2,0,0,2,1,2,0,2,0] [.code (bodyOf fn)])) (allF (opsAt (focus [0,2,0,2,0,0,2,1,2,0,0,2,1,2,0,2,0] [.code (bodyOf fn)])) [0,1,2,6,7]) (downs (opsAt (focus [0,2,0,2,0,0,2,1,2,0,0,2,1,2,0,2,0] [.code (bodyOf fn)])) [0,1,2,6,7]) [.none,.none,.none,.none,.none,(.callX [(1,200000)] (some (0,59)) (.row 0 0 z.length 6) [(0,(.pure ((z:List ARange).map ARange.cells).flatten))]),.none,.none,.none,.none,(.callX [(59,200000)] (some (0,64)) (.row 0 0 z1.length 6) [(0,(.pure ((z1:List ARange).map ARange.cells).flatten))]),.none] (flS tab fn.ntmps (opsAt (focus [0,2,0,2,0,0,2,1,2,0,0,2,1,2,0,2,0] [.code (bodyOf fn)])) [0,1,2,6,7] ⟨[(0,(.row 1 0 out.length 6)),(1,(.pv (polyPV p))),(2,(.pv (lpv (lcell ARat.cells) l))),(8,(.ptr 8 0)),(9,(.ptr 9 0)),(12,(.ptr 12 0))],[(12,(.lit [(eB mid.neg),(.pv (wordsPV mid.num)),(.pv (wordsPV mid.den))])),(9,(.lit [(eB hi.neg),(.pv (wordsPV hi.num)),(.pv (wordsPV hi.den))])),(8,(.lit [(eB lo.neg),(.pv (wordsPV lo.num)),(.pv (wordsPV lo.den))])),(1,(.pure ((out:List ARange).map ARange.cells).flatten))]⟩)=anyR prg tab fn.ntmps (opsAt (focus [0,2,0,2,0,0,2,1,2,0,0,2,1,2,0,2,0] [.code (bodyOf fn)])) (allF (opsAt (focus [0,2,0,2,0,0,2,1,2,0,0,2,1,2,0,2,0] [.code (bodyOf fn)])) [0,1,2,6,7]) (downs (opsAt (focus [0,2,0,2,0,0,2,1,2,0,0,2,1,2,0,2,0] [.code (bodyOf fn)])) [0,1,2,6,7]) [.none,.none,.none,.none,.none,(.callX [(1,200000)] (some (0,59)) (.row 0 0 z.length 6) [(0,(.pure ((z:List ARange).map ARange.cells).flatten))]),.none,.none,.none,.none,(.callX [(59,200000)] (some (0,64)) (.row 0 0 z1.length 6) [(0,(.pure ((z1:List ARange).map ARange.cells).flatten))]),.none] (flS tab fn.ntmps (opsAt (focus [0,2,0,2,0,0,2,1,2,0,0,2,1,2,0,2,0] [.code (bodyOf fn)])) [0,1,2,6,7] ⟨[(0,(.row 1 0 out.length 6)),(1,(.pv (polyPV p))),(2,(.pv (lpv (lcell ARat.cells) l))),(8,(.ptr 8 0)),(9,(.ptr 9 0)),(12,(.ptr 12 0))],[(12,(.lit [(eB mid.neg),(.pv (wordsPV mid.num)),(.pv (wordsPV mid.den))])),(9,(.lit [(eB hi.neg),(.pv (wordsPV hi.num)),(.pv (wordsPV hi.den))])),(8,(.lit [(eB lo.neg),(.pv (wordsPV lo.num)),(.pv (wordsPV lo.den))])),(1,(.pure ((out:List ARange).map ARange.cells).flatten))]⟩):=by kernel_rfl
theorem e3(out:List ARange)(p:List ARat)(l:List (List ARat))(lo hi:ARat)(cha cha1 val:Int)(mid:ARat)(z z1:List ARange)(h1:Contract prg 49 [(lpv (lcell ARat.cells) l),lo.pv] (vI cha))(h2:Contract prg 49 [(lpv (lcell ARat.cells) l),hi.pv] (vI cha1))(h3:InI64 (cha-cha1))(h4:(cha-cha1)≠0)(h5:(cha-cha1)=1)(h6:Contract prg 64 [(polyPV p),lo.pv] (vI val))(h7:val=0)(h8:Contract prg 65 [(⟨lo,hi⟩:ARange).pv] mid.pv)(h9:ContractX prg 89 [.row 200000 0 out.length 6,.pv (polyPV p),.pv (lpv (lcell ARat.cells) l),.pv lo.pv,.pv mid.pv] [(200000,(.pure ((out:List ARange).map ARange.cells).flatten))] (.row 0 0 z.length 6) [(0,(.pure ((z:List ARange).map ARange.cells).flatten))])(h10:ContractX prg 89 [.row 200000 0 z.length 6,.pv (polyPV p),.pv (lpv (lcell ARat.cells) l),.pv mid.pv,.pv hi.pv] [(200000,(.pure ((z:List ARange).map ARange.cells).flatten))] (.row 0 0 z1.length 6) [(0,(.pure ((z1:List ARange).map ARange.cells).flatten))]):ContractX prg 89 [(.row 200000 0 out.length 6),(.pv (polyPV p)),(.pv (lpv (lcell ARat.cells) l)),(.pv lo.pv),(.pv hi.pv)] [(200000,(.pure ((out:List ARange).map ARange.cells).flatten))] (.row 0 0 z1.length 6) [(0,(.pure ((z1:List ARange).map ARange.cells).flatten))] :=
 ContractX.ofL Tryz.func89 (by kernel_rfl) (LX.done mixed tabOk (n:=114) (ns:=[1,1,1,1,1,1,1,1,1,1,1,1,1,1,1]) (tr:=[.ren 200000 1,.reg [],dr 7 1 [.none,.none,(.pv (vI cha)),.none,.none,(.pv (vI cha1)),(iI (cha-cha1))],.reg [],.dec false,.reg [.none,.none,.none,.none,.none,(.pv (vI val)),.none,(.dec true)],.dec false,.reg [.none,.none,.none,(.pv mid.pv)],.keep [0,1,2,8,9,12],.any [0,1,2,6,7] [.none,.none,.none,.none,.none,(.callX [(1,200000)] (some (0,59)) (.row 0 0 z.length 6) [(0,(.pure ((z:List ARange).map ARange.cells).flatten))]),.none,.none,.none,.none,(.callX [(59,200000)] (some (0,64)) (.row 0 0 z1.length 6) [(0,(.pure ((z1:List ARange).map ARange.cells).flatten))]),.none],.ren 64 0,.drop [12,9,8],.ord [0]]) rfl (cj h1 (cj h2 (cj (bs_sub h3) (cj (deq_f h4) (cj (deq_t h5) (cj (deq_t h5) (cj (deq_t h5) (cj h6 (cj (deq_t h5) (cj (deq_t h5) (cj (dne_f h7) (cj h8 (cj h9 (cj h10 (cj (e3_any0 out p l lo hi mid z z1) True.intro))))))))))))))) (by kernel_rfl))
theorem e4_any0(out:List ARange)(p:List ARat)(l:List (List ARat))(lo hi mid:ARat)(z z1:List ARange):anyL prg tab fn.ntmps (opsAt (focus [0,2,0,2,0,0,2,1,2,0,0,2,1,2,0,2,0] [.code (bodyOf fn)])) (allF (opsAt (focus [0,2,0,2,0,0,2,1,2,0,0,2,1,2,0,2,0] [.code (bodyOf fn)])) [0,1,2,6,7]) (downs (opsAt (focus [0,2,0,2,0,0,2,1,2,0,0,2,1,2,0,2,0] [.code (bodyOf fn)])) [0,1,2,6,7]) [.none,.none,.none,.none,.none,(.callX [(1,200000)] (some (0,59)) (.row 0 0 z.length 6) [(0,(.pure ((z:List ARange).map ARange.cells).flatten))]),.none,.none,.none,.none,(.callX [(59,200000)] (some (0,64)) (.row 0 0 z1.length 6) [(0,(.pure ((z1:List ARange).map ARange.cells).flatten))]),.none] (flS tab fn.ntmps (opsAt (focus [0,2,0,2,0,0,2,1,2,0,0,2,1,2,0,2,0] [.code (bodyOf fn)])) [0,1,2,6,7] ⟨[(0,(.row 1 0 out.length 6)),(1,(.pv (polyPV p))),(2,(.pv (lpv (lcell ARat.cells) l))),(8,(.ptr 8 0)),(9,(.ptr 9 0)),(12,(.ptr 12 0))],[(12,(.lit [(eB mid.neg),(.pv (wordsPV mid.num)),(.pv (wordsPV mid.den))])),(9,(.lit [(eB hi.neg),(.pv (wordsPV hi.num)),(.pv (wordsPV hi.den))])),(8,(.lit [(eB lo.neg),(.pv (wordsPV lo.num)),(.pv (wordsPV lo.den))])),(1,(.pure ((out:List ARange).map ARange.cells).flatten))]⟩)=anyR prg tab fn.ntmps (opsAt (focus [0,2,0,2,0,0,2,1,2,0,0,2,1,2,0,2,0] [.code (bodyOf fn)])) (allF (opsAt (focus [0,2,0,2,0,0,2,1,2,0,0,2,1,2,0,2,0] [.code (bodyOf fn)])) [0,1,2,6,7]) (downs (opsAt (focus [0,2,0,2,0,0,2,1,2,0,0,2,1,2,0,2,0] [.code (bodyOf fn)])) [0,1,2,6,7]) [.none,.none,.none,.none,.none,(.callX [(1,200000)] (some (0,59)) (.row 0 0 z.length 6) [(0,(.pure ((z:List ARange).map ARange.cells).flatten))]),.none,.none,.none,.none,(.callX [(59,200000)] (some (0,64)) (.row 0 0 z1.length 6) [(0,(.pure ((z1:List ARange).map ARange.cells).flatten))]),.none] (flS tab fn.ntmps (opsAt (focus [0,2,0,2,0,0,2,1,2,0,0,2,1,2,0,2,0] [.code (bodyOf fn)])) [0,1,2,6,7] ⟨[(0,(.row 1 0 out.length 6)),(1,(.pv (polyPV p))),(2,(.pv (lpv (lcell ARat.cells) l))),(8,(.ptr 8 0)),(9,(.ptr 9 0)),(12,(.ptr 12 0))],[(12,(.lit [(eB mid.neg),(.pv (wordsPV mid.num)),(.pv (wordsPV mid.den))])),(9,(.lit [(eB hi.neg),(.pv (wordsPV hi.num)),(.pv (wordsPV hi.den))])),(8,(.lit [(eB lo.neg),(.pv (wordsPV lo.num)),(.pv (wordsPV lo.den))])),(1,(.pure ((out:List ARange).map ARange.cells).flatten))]⟩):=by kernel_rfl
theorem e4(out:List ARange)(p:List ARat)(l:List (List ARat))(lo hi:ARat)(cha cha1:Int)(mid:ARat)(z z1:List ARange)(h1:Contract prg 49 [(lpv (lcell ARat.cells) l),lo.pv] (vI cha))(h2:Contract prg 49 [(lpv (lcell ARat.cells) l),hi.pv] (vI cha1))(h3:InI64 (cha-cha1))(h4:(cha-cha1)≠0)(h5:(cha-cha1)≠1)(h6:Contract prg 65 [(⟨lo,hi⟩:ARange).pv] mid.pv)(h7:ContractX prg 89 [.row 200000 0 out.length 6,.pv (polyPV p),.pv (lpv (lcell ARat.cells) l),.pv lo.pv,.pv mid.pv] [(200000,(.pure ((out:List ARange).map ARange.cells).flatten))] (.row 0 0 z.length 6) [(0,(.pure ((z:List ARange).map ARange.cells).flatten))])(h8:ContractX prg 89 [.row 200000 0 z.length 6,.pv (polyPV p),.pv (lpv (lcell ARat.cells) l),.pv mid.pv,.pv hi.pv] [(200000,(.pure ((z:List ARange).map ARange.cells).flatten))] (.row 0 0 z1.length 6) [(0,(.pure ((z1:List ARange).map ARange.cells).flatten))]):ContractX prg 89 [(.row 200000 0 out.length 6),(.pv (polyPV p)),(.pv (lpv (lcell ARat.cells) l)),(.pv lo.pv),(.pv hi.pv)] [(200000,(.pure ((out:List ARange).map ARange.cells).flatten))] (.row 0 0 z1.length 6) [(0,(.pure ((z1:List ARange).map ARange.cells).flatten))] :=
 ContractX.ofL Tryz.func89 (by kernel_rfl) (LX.done mixed tabOk (n:=114) (ns:=[1,1,1,1,1,1,1,1,1,1,1,1,1]) (tr:=[.ren 200000 1,.reg [],dr 7 1 [.none,.none,(.pv (vI cha)),.none,.none,(.pv (vI cha1)),(iI (cha-cha1))],.reg [],.dec false,.reg [.none,.none,.none,.skip,.skip,.skip,.skip,(.dec false)],.auto,.reg [.none,.none,.none,(.pv mid.pv)],.keep [0,1,2,8,9,12],.any [0,1,2,6,7] [.none,.none,.none,.none,.none,(.callX [(1,200000)] (some (0,59)) (.row 0 0 z.length 6) [(0,(.pure ((z:List ARange).map ARange.cells).flatten))]),.none,.none,.none,.none,(.callX [(59,200000)] (some (0,64)) (.row 0 0 z1.length 6) [(0,(.pure ((z1:List ARange).map ARange.cells).flatten))]),.none],.ren 64 0,.drop [12,9,8],.ord [0]]) rfl (cj h1 (cj h2 (cj (bs_sub h3) (cj (deq_f h4) (cj (deq_f h5) (cj (deq_f h5) (cj (deq_f h5) (cj (deq_f h5) (cj (deq_f h5) (cj h6 (cj h7 (cj h8 (cj (e4_any0 out p l lo hi mid z z1) True.intro))))))))))))) (by kernel_rfl))
end sturm_searchG
end Go.Proofs.YtjadajceekjeoaaGreatDoor.Sym.Path
namespace Go.Proofs.YtjadajceekjeoaaGreatDoor.Sym
open Go Path CInt
set_option linter.unusedVariables false
namespace CSt
theorem check(p:List ARat)(hp:FitP 274877906944 p):Contract prg 46 [polyPV p] (errPV (errOf (if chk p=0 then (if p.length=0 then 8 else 0) else chk p))):=by
 have hk:=CPo.Check p hp
 by_cases h:chk p=0
 ·rw[if_pos h]
  rw[h] at hk
  by_cases h0:p.length=0
  ·rw[if_pos h0];exact sturm_check.e0 p hk h0
  ·rw[if_neg h0];exact sturm_check.e1 p hk h0
 ·rw[if_neg h]
  rw[errOf_ne h] at hk ⊢
  exact sturm_check.e2 p _ hk
theorem chain{h L:Nat}{p:List Rat}(f:Fine h L p):Contract prg 48 [pq p] (.tup [pqs (chainL p),.nilI]):=by
 have hL:=f.hL
 have hfb:=f.fb
 obtain⟨f1,f2,_⟩:=free_spec f.zp f.ne
 have hfl:=f.free_len
 have hl:=f.len
 have hff:=f.free_ch.fl hfb.2.2.1
 have hd:=CPo.Derive ((freeL p).map mkR) (chk_map f1 (by omega)) (fit_mapk (fl_mono hff (by omega)))
 rw[vals_mkR] at hd
 have loop:∀(n i j:Nat) (pre:List (List Rat)) (q d:List Rat),d.length<n→pre.length+n≤20→Euc (fB h L) (fB h L+1) L i j q d→sturm_chain.Loop1 (d.map mkR) ((pre++[q]).map (fun g=>g.map mkR)) (.tup [pqs (pre++chainF n q d),.nilI]):=by
  intro n
  induction n with
  |zero=>intro i j pre q d hn;omega
  |succ n ih =>
   intro i j pre q d hn hpl e
   by_cases h0:d=[]
   ·subst h0
    rw[chainF_nil]
    exact sturm_chain.l13 _ _ (by simp)
   ·rw[chainF_cons h0]
    obtain⟨c1,c2⟩:=CPl.next hfb.2.2.1 (Nat.le_succ _) (by omega) f.free_x2 e h0
    obtain⟨r1,r2⟩:=e.rest (Nat.le_succ _) h0
    have hc:Ch (xB (fB h L) (fB h L+1) (j+(q.length-d.length))) (trimL (smulL (-1) (restL q d))):=by
     refine Ch.trim ?_
     obtain⟨D,d1,d2,d3⟩:=r1
     refine⟨D,d1,d2,fun i => ?_⟩
     obtain⟨m,m1,m2⟩:=d3 i
     refine⟨-m,?_,by rw[wl_neg];exact m2⟩
     rw[coef_smulL,Rat.intCast_neg,←m1];grind
    have next:=ih _ _ (pre++[q]) d _ (by have:=rest_neg_len (p:=q) e.zq h0;omega) (by rw[List.length_append,List.length_singleton];omega) (e.next (Nat.le_succ _) h0 hc (rest_neg_len e.zq h0) (lastZ_trimL _))
    have es:(pre++[q]).map (fun g=>g.map mkR)++[d.map mkR]=(pre++[q]++[d]).map (fun g=>g.map mkR):=by rw[List.map_append (l₁:=pre++[q])];rfl
    have hlen:((pre++[q]++[d]).map (fun g=>g.map mkR)).length=pre.length+2:=by simp
    have hone:=CFr.Of (-1) (by unfold InI64;omega)
    have:=List.length_pos_iff.2 h0
    refine sturm_chain.l10 _ _ pre.length (q.map mkR) _ _ _ _ (by rw[lenM];omega) (by rw[es,hlen];omega) (by rw[es,hlen];unfold InI64;omega) (by rw[es,hlen];omega) (by rw[es,hlen];omega) (by rw[es];simp) c1 hone c2 ?_
    rw[es]
    have e2:pre++[q]++chainF n d (trimL (smulL (-1) (restL q d)))=pre++q::chainF n d (trimL (smulL (-1) (restL q d))):=by simp
    rwa[e2] at next
 have:=loop (freeL p).length 0 1 [] (freeL p) (deriveL (freeL p)) (deriveL_lt2 f2) (by simp;omega) f.free_euc
 exact sturm_chain.e0 _ _ _ (CPl.Free f) hd this
theorem changes(G:List (List Rat))(x:Rat)(hG:∀g∈G,lastZ g=false∧Fl 1073741824 g∧g.length≤10)(hl:G.length≤1000)(hx:ht x≤1073741824):Contract prg 49 [pqs G,(mkR x).pv] (vI (chg G x)):=by
 have loop:∀(j t n:Nat) (l:Int),G.length-t=j→t≤G.length→n≤t → -1≤l→l≤1→sturm_changes.Loop1 n l (G.map (fun g=>g.map mkR)) t (mkR x) (vI ((n:Int)+varS l ((G.drop t).map (fun g=>sg (evalL g x))))):=by
  intro j
  induction j with
  |zero =>
   intro t n l hj ht hn _ _
   rw[List.drop_of_length_le (by omega),List.map_nil,varS,Int.add_zero]
   exact sturm_changes.l13 n l _ t _ (by rw[List.length_map];omega)
  |succ j ih =>
   intro t n l hj htt hn hl1 hl2
   obtain⟨g,hg⟩:∃g,G[t]? = some g:=⟨_,List.getElem?_eq_getElem (by omega)⟩
   obtain⟨z,fl,ln⟩:=hG g (List.mem_of_getElem? hg)
   have hm:(G.map (fun g=>g.map mkR))[t]? = some (g.map mkR):=by rw[List.getElem?_map,hg];rfl
   have hev:=CPo.Eval (g.map mkR) (mkR x) (chk_map z (by omega)) (fit_mapk fl) (fit_mkRk hx)
   rw[vals_mkR,mkR_val] at hev
   have h3:=ht_eval g x 1073741824 fl hx
   have h4:g.length*(2*1073741824+1)≤10*(2*1073741824+1):=Nat.mul_le_mul_right _ ln
   have hs:=QF.Sign (evalL g x) (by omega)
   have hv:=sturm_value.e0 _ _ _ none _ hev hs
   have hsg:cmpR (evalL g x) 0=sg (evalL g x):=rfl
   have h3s:=sg_three (evalL g x)
   rw[hsg] at hv
   have hlt:t<(G.map (fun g=>g.map mkR)).length:=by rw[List.length_map];omega
   rw[drop_cons hg,List.map_cons,varS]
   generalize sg (evalL g x)=s at hv h3s
   by_cases h0:s=0
   ·rw[if_pos h0]
    exact sturm_changes.l12 n l _ t _ _ _ hlt hm hv h0 (by omega) (ih (t+1) n l (by omega) (by omega) (by omega) hl1 hl2)
   ·rw[if_neg h0]
    by_cases h1:s = -l
    ·rw[if_pos h1]
     have:=ih (t+1) (n+1) s (by omega) (by omega) (by omega) (by omega) (by omega)
     rw[show (((n+1:Nat):Int))+varS s ((G.drop (t+1)).map (fun g=>sg (evalL g x)))=(n:Int)+(1+varS s ((G.drop (t+1)).map (fun g=>sg (evalL g x)))) from by omega] at this
     exact sturm_changes.l10 n l _ t _ _ _ hlt hm hv h0 (by unfold InI64;omega) h1 (by omega) (by omega) this
    ·rw[if_neg h1,Int.zero_add]
     exact sturm_changes.l11 n l _ t _ _ _ hlt hm hv h0 (by unfold InI64;omega) h1 (by omega) (ih (t+1) n s (by omega) (by omega) (by omega) (by omega) (by omega))
 have:=loop _ 0 0 0 rfl (by omega) (by omega) (by omega) (by omega)
 rw[List.drop_zero,show(((0:Nat):Int))=0 from rfl,Int.zero_add] at this
 exact sturm_changes.e0 _ _ this
theorem chain_all{h L:Nat}{p:List Rat}(f:Fine h L p):∀g∈chainL p,lastZ g=false∧Fl 1073741824 g∧g.length≤10:=by
 intro g hg
 refine⟨?_,f.chain g hg⟩
 have key:∀(n:Nat) (p d:List Rat),lastZ p=false→lastZ d=false→∀g∈chainF n p d,lastZ g=false:=by
  intro n
  induction n with
  |zero=>intro p d hp _ g hg;rw[chainF,List.mem_singleton] at hg;rw[hg];exact hp
  |succ n ih =>
   intro p d hp hd g hg
   by_cases h:d=[]
   ·rw[h,chainF_nil,List.mem_singleton] at hg;rw[hg];exact hp
   ·rw[chainF_cons h] at hg
    rcases List.mem_cons.1 hg with hg|hg
    ·rw[hg];exact hp
    ·exact ih d _ hd (lastZ_trimL _) g hg
 exact key _ _ _ (free_spec f.zp f.ne).1 (lastZ_deriveL _) g hg
theorem Count{h L:Nat}{p:List Rat}(f:Fine h L p)(lo hi:Rat)(hlh:lo≤hi)(h1:ht lo≤1073741824)(h2:ht hi≤1073741824):Contract prg 13 [pq p,(mkR lo).pv,(mkR hi).pv] (.tup [vI (chg (chainL p) lo-chg (chainL p) hi),.nilI]):=by
 have hc:=f.chain_count
 have hck:=check (p.map mkR) (fitQ (f.ch.fl f.h1) (by have:=f.fb;omega))
 have hp:=List.length_pos_iff.2 f.ne
 rw[f.chk,if_pos rfl,if_neg (by rw[lenM];omega)] at hck
 obtain⟨a1,a2⟩:=chg_range (chainL p) lo
 obtain⟨b1,b2⟩:=chg_range (chainL p) hi
 exact sturm_Count.e3 _ _ _ _ _ _ _ _ _ hck (QF.Valid lo (by omega)) rfl (QF.Valid hi (by omega)) rfl (QF.Cmp lo hi (by omega) (by omega)) (cmpR_le.2 hlh) (chain f) (changes _ lo (chain_all f) (by omega) h1) (changes _ hi (chain_all f) (by omega) h2) (by unfold InI64;omega)
end CSt
end Go.Proofs.YtjadajceekjeoaaGreatDoor.Sym
namespace Go.Proofs.YtjadajceekjeoaaGreatDoor.Sym
open Go Path CInt
set_option linter.unusedVariables false
def mkG(a b:Rat):ARange:=⟨mkR a,mkR b⟩
def ARange.ok(r:ARange):Bool:=r.lo.valid&&(r.hi.valid&&decide (r.lo.val≤r.hi.val))
def loG(r:ARange):Rat:=bif r.ok then r.lo.val else 0
def hiG(r:ARange):Rat:=bif r.ok then r.hi.val else 0
theorem ok_parts{r:ARange}(h:r.ok=true):r.lo.valid=true∧r.hi.valid=true∧r.lo.val≤r.hi.val:=by
 unfold ARange.ok at h
 simp only[Bool.and_eq_true,decide_eq_true_eq] at h
 exact h
theorem loG_le(r:ARange):loG r≤hiG r:=by
 unfold loG hiG
 cases h:r.ok with
 |true=>exact(ok_parts h).2.2
 |false=>exact Rat.le_refl
theorem ok_mkG{a b:Rat}(h:a≤b):(mkG a b).ok=true:=by
 unfold ARange.ok mkG
 simp only[mkR_valid,mkR_val,decide_eq_true h,Bool.and_self]
theorem loG_mk{a b:Rat}(h:a≤b):loG (mkG a b)=a:=by unfold loG;rw[ok_mkG h,cond_true];exact mkR_val a
theorem hiG_mk{a b:Rat}(h:a≤b):hiG (mkG a b)=b:=by unfold hiG;rw[ok_mkG h,cond_true];exact mkR_val b
theorem mkG_of{r:ARange}(h:r.ok=true):mkG (loG r) (hiG r)=r:=by
 obtain⟨h1,h2,h3⟩:=ok_parts h
 unfold mkG loG hiG
 rw[h,cond_true,cond_true,mkR_of h1,mkR_of h2]
theorem mkG_not{r:ARange}(h:r.ok=false):mkG (loG r) (hiG r)=⟨⟨false,[],[]⟩,⟨false,[],[]⟩⟩:=by
 unfold mkG loG hiG
 rw[h];rfl
abbrev FitG(k:Nat)(r:ARange):Prop:=(r.lo.num.length≤k∧r.lo.den.length≤k)∧(r.hi.num.length≤k∧r.hi.den.length≤k)
theorem fit_mkG{a b:Rat}{k:Nat}(ha:ht a≤k)(hb:ht b≤k):FitG k (mkG a b):=⟨fit_mkRk ha,fit_mkRk hb⟩
theorem ht_loG{r:ARange}{k:Nat}(h:FitG k r)(hk:1≤k):ht (loG r)≤k:=by
 unfold loG
 cases r.ok with
 |true=>exact ht_fit h.1.1 h.1.2 hk
 |false=>exact Nat.le_trans (Nat.le_of_eq ht_zero) hk
theorem ht_hiG{r:ARange}{k:Nat}(h:FitG k r)(hk:1≤k):ht (hiG r)≤k:=by
 unfold hiG
 cases r.ok with
 |true=>exact ht_fit h.2.1 h.2.2 hk
 |false=>exact Nat.le_trans (Nat.le_of_eq ht_zero) hk
namespace CIv
theorem Valid(r:ARange)(h:FitG 68719476736 r):Contract prg 117 [r.pv] (vB r.ok):=by
 have h1:=CFr.Valid r.lo ⟨by omega,by omega⟩
 have h2:=CFr.Valid r.hi ⟨by omega,by omega⟩
 have h3:=CFr.Cmp r.lo r.hi ⟨by omega,by omega⟩ ⟨by omega,by omega⟩
 unfold ARange.ok
 cases hv:r.lo.valid with
 |false=>exact interval_Valid.e2 r _ h1 hv
 |true =>
  cases hw:r.hi.valid with
  |false=>exact interval_Valid.e1 r _ _ h1 hv h2 hw
  |true =>
   have:=interval_Valid.e0 r _ _ _ h1 hv h2 hw h3
   rwa[show decide (cmpR r.lo.val r.hi.val≤0)=decide (r.lo.val≤r.hi.val) from decide_eq_decide.2 cmpR_le] at this
theorem clean(r:ARange)(h:FitG 68719476736 r):Contract prg 95 [r.pv] (mkG (loG r) (hiG r)).pv:=by
 have hv:=Valid r h
 cases hk:r.ok with
 |false=>rw[mkG_not hk];exact interval_clean.e0 r _ hv hk
 |true =>
  obtain⟨h1,h2,h3⟩:=ok_parts hk
  have:=interval_clean.e1 r _ _ _ hv hk (CPo.addZ r.lo ⟨by omega,by omega⟩) (CPo.addZ r.hi ⟨by omega,by omega⟩)
  rw[mkR_of h1,mkR_of h2] at this
  rw[mkG_of hk];exact this
theorem Point(x:Rat)(hx:ht x≤68719476736):Contract prg 66 [(mkR x).pv] (mkG x x).pv:=interval_Point.e0 _ _ _ (QF.addZ x hx) (QF.addZ x hx)
theorem Hull(r s:ARange)(h:FitG 68719476736 r)(h':FitG 68719476736 s):Contract prg 63 [r.pv,s.pv] (mkG (minR (loG r) (loG s)) (maxR (hiG r) (hiG s))).pv :=
 interval_Hull.e0 r s _ _ _ _ (clean r h) (clean s h') (QF.Min _ _ (ht_loG h (by omega)) (ht_loG h' (by omega))) (QF.Max _ _ (ht_hiG h (by omega)) (ht_hiG h' (by omega)))
end CIv
end Go.Proofs.YtjadajceekjeoaaGreatDoor.Sym
namespace Go.Proofs.YtjadajceekjeoaaGreatDoor.Sym
open Go Path CInt
set_option linter.unusedVariables false
def Cau(p:List Rat)(b:Rat):Prop:=∀c∈p,ab c+ab (topL p)≤b*ab (topL p)
theorem topL_cons{a:Rat}{r:List Rat}(h:r≠[]):topL (a::r)=topL r:=by
 unfold topL
 obtain⟨n,hn⟩:∃n,r.length=n+1:=⟨r.length-1,by have:=List.length_pos_iff.2 h;omega⟩
 rw[List.length_cons,hn]
 rfl
theorem pow_cases{s:Rat}(hs:s=1∨s = -1):∀n:Nat,s^n=1∨s^n = -1
 |0=>Or.inl (Rat.pow_zero _)
 |n+1=>by
  have ih:=pow_cases hs n
  rw[Rat.pow_succ]
  rcases ih with h|h<;>rcases hs with k|k<;>rw[h,k]<;>grind
theorem cau_sign{T b s x:Rat}(hT:0<T)(hs:s=1∨s = -1)(hx:b≤x)(hx0:0≤x):∀p:List Rat,p≠[]→0<topL p→(∀c∈p,ab c+T≤b*T)→topL p=T→T≤s^(p.length-1)*evalL p (s*x)
 |[],h,_,_,_=>absurd rfl h
 |[a],_,h1,_,h2=>by
  have e:topL [a]=a:=rfl
  rw[eval_c,List.length_singleton,Nat.sub_self,Rat.pow_zero,Rat.one_mul,←e,h2]
  exact Rat.le_refl
 |a::c::r,_,h1,h2,h3=>by
  rw[topL_cons (by simp)] at h1 h3
  have ih:=cau_sign hT hs hx hx0 (c::r) (by simp) h1 (fun y hy=>h2 y (List.mem_cons_of_mem _ hy)) h3
  have ha:=h2 a (List.mem_cons_self ..)
  rw[List.length_cons,List.length_cons,Nat.add_sub_cancel,Rat.pow_succ]
  rw[List.length_cons,Nat.add_sub_cancel] at ih
  have e:evalL (a::c::r) (s*x)=evalL (c::r) (s*x)*(s*x)+a:=rfl
  rw[e]
  generalize evalL (c::r) (s*x)=E at ih ⊢
  have hp:=pow_cases hs r.length
  generalize s^r.length=P at ih hp ⊢
  have h4:T*x≤P*E*x:=Rat.mul_le_mul_of_nonneg_right ih hx0
  have h5:T*b≤T*x:=Rat.mul_le_mul_of_nonneg_left hx (Rat.le_of_lt hT)
  have h6:=le_ab a
  have h7:=neg_le_ab a
  have e2:P*s*(E*(s*x)+a)=(s*s)*(P*E*x)+P*s*a:=by grind
  have e3:s*s=1:=by rcases hs with rfl|rfl<;>decide +kernel
  rw[e2,e3]
  have h8:P*s=1∨P*s = -1:=by rcases hs with rfl|rfl<;>rcases hp with h|h<;>rw[h]<;>first|(left;decide +kernel)|(right;decide +kernel)
  rcases h8 with h|h<;>rw[h]<;>grind
theorem cau_neg(p:List Rat):∀c∈smulL (-1) p,∃d∈p,ab c=ab d:=by
 induction p with
 |nil=>intro c hc;cases hc
 |cons a r ih =>
  intro c hc
  rcases List.mem_cons.1 hc with e|hc
  ·refine⟨a,List.mem_cons_self ..,?_⟩
   rw[e,←ab_neg a];congr 1;grind
  ·obtain⟨d,h1,h2⟩:=ih c hc
   exact⟨d,List.mem_cons_of_mem _ h1,h2⟩
theorem cau_big{p:List Rat}{b:Rat}(hz:lastZ p=false)(h0:p≠[])(hc:Cau p b)(hb:0≤b){y:Rat}(hy:b≤ab y):ab (topL p)≤ab (evalL p y):=by
 have ht:=top_ne hz h0
 have key:∀q:List Rat,q≠[]→0<topL q→Cau q b→topL q≤ab (evalL q y):=by
  intro q hq hT hcq
  have e:ab (topL q)=topL q:=by rcases ab_cases (topL q) with h|h<;>grind
  unfold Cau at hcq
  rw[e] at hcq
  rcases ab_cases y with ⟨h1,h2⟩|⟨h1,h2⟩
  ·have:=cau_sign hT (Or.inl rfl) (show b≤y by grind) h1 q hq hT hcq rfl
   rw[Rat.one_mul] at this
   have h3:=pow_cases (Or.inl rfl:(1:Rat)=1∨(1:Rat) = -1) (q.length-1)
   have h4:=le_ab (evalL q y)
   have h5:=neg_le_ab (evalL q y)
   rcases h3 with h|h<;>rw[h] at this<;>grind
  ·have:=cau_sign hT (Or.inr rfl) (show b ≤ -y by grind) (by grind) q hq hT hcq rfl
   rw[show (-1:Rat) * -y=y from by grind] at this
   have h3:=pow_cases (Or.inr rfl:(-1:Rat)=1∨(-1:Rat) = -1) (q.length-1)
   have h4:=le_ab (evalL q y)
   have h5:=neg_le_ab (evalL q y)
   rcases h3 with h|h<;>rw[h] at this<;>grind
 rcases ab_cases (topL p) with ⟨h1,h2⟩|⟨h1,h2⟩
 ·have:=key p h0 (by grind) hc
  rw[h2];exact this
 ·have e:topL (smulL (-1) p) = - topL p:=by unfold topL;rw[len_smulL,coef_smulL];grind
  have e3:ab (-topL p) = -topL p:=by rw[ab_neg,h2]
  have:=key (smulL (-1) p) (by cases p with|nil=>exact absurd rfl h0|cons a r=>intro h;cases h) (by rw[e];grind) (by
   intro c hcc
   obtain⟨d,d1,d2⟩:=cau_neg p c hcc
   rw[e,ab_neg,d2]
   exact hc d d1)
  rw[e,evalL_smulL] at this
  rw[h2]
  have e2:(-1:Rat)*evalL p y = - evalL p y:=by grind
  rwa[e2,ab_neg] at this
end Go.Proofs.YtjadajceekjeoaaGreatDoor.Sym
namespace Go.Proofs.YtjadajceekjeoaaGreatDoor.Sym
open Go Path CInt
set_option linter.unusedVariables false
theorem chg_mono{f:List Rat}(hz:lastZ f=false)(hf:f≠[])(hc:Cop f (deriveL f)){u v ε:Rat}(huv:u≤v){s:Int}(hs:s=1∨s = -1)(hε:0<ε)(hb:Big ε u v (deriveL f) s) :
  chg (chainF f.length f (deriveL f)) u+(if sg (evalL f v) = -s then 1 else 0)=chg (chainF f.length f (deriveL f)) v+(if sg (evalL f u) = -s then 1 else 0):=by
 obtain⟨R,hR,hu,hv⟩:=both_ab (a:=u) (b:=v)
 have h2:deriveL f≠[]:=by
  intro e
  have:=(hb u Rat.le_refl huv).1
  rw[e] at this
  have e0:sg (evalL [] u)=0:=by show sg (0:Rat)=0;decide
  rw[e0] at this
  omega
 obtain⟨δ,ε0,hδ,hε0,hl⟩:=loc_exists hz h2 hf hc hR
 have hS:=sec_nonneg hR f
 have hd:=div_pos' hε (show 0<sec f R+1 by grind)
 have hde:=Rat.div_mul_cancel (a:=ε) (b:=sec f R+1) (by grind)
 generalize ε/(sec f R+1)=δ2 at hd hde
 have hmin:0<minR δ δ2:=by unfold minR;split<;>assumption
 have m1:=minR_le_l δ δ2
 have m2:=minR_le_r δ δ2
 refine subdiv (P:=fun u v=>chg (chainF f.length f (deriveL f)) u+(if sg (evalL f v) = -s then 1 else 0)=chg (chainF f.length f (deriveL f)) v+(if sg (evalL f u) = -s then 1 else 0)) hmin huv ?_ ?_
 ·intro x y h1 hxy h3 hw
  have hx:=ab_between (x:=x) h1 (by grind) hu hv
  have hy:=ab_between (x:=y) (by grind) h3 hu hv
  have hb':Big ε x y (deriveL f) s:=fun z z1 z2=>hb z (by grind) (by grind)
  rcases hl x y hx hy hxy (by grind) with ⟨⟨t,ht,hB⟩,e⟩|⟨t,ht,hm,e⟩
  ·show _+_=_+_
   rw[(hB x Rat.le_refl hxy).1,(hB y hxy Rat.le_refl).1,e]
  ·show _+_=_+_
   by_cases exy:x=y
   ·rw[exy]
   ·have hlt:x<y:=by grind
    have k1:=hm x y Rat.le_refl hlt Rat.le_refl
    have w3:=Rat.mul_le_mul_of_nonneg_left (show y-x≤δ2 by grind) hS
    have k2:=mono_of (δ:=0) hx hy hs hb' hε (show sec f R*(y-x)<ε by grind) x y Rat.le_refl hlt Rat.le_refl
    have est:t=s:=by
     rcases hs with rfl|rfl<;>rcases ht with rfl|rfl<;>first|rfl|(exfalso;rw[show ((1:Int):Rat)=1 from rfl,show((-1:Int):Rat) = -1 from rfl] at *;grind)
    rw[est] at e
    exact e
 ·intro x y z _ _ _ _ e1 e2
  have e1:_+_=_+_:=e1
  have e2:_+_=_+_:=e2
  show _+_=_+_
  omega
theorem sep{f U V:List Rat}{R u v ε:Rat}(hz:lastZ f=false)(hf:f≠[])(hc:Cop f (deriveL f))(hu:ab u≤R)(hv:ab v≤R)(huv:u≤v)(hU:∀x,evalL U x*evalL f x+evalL V x*evalL (deriveL f) x=1)(hε:0<ε)(h1:(nrm U R+nrm V R)*(2*ε)<1)(hl1:lip f R*(v-u)≤ε)(hl2:lip (deriveL f) R*(v-u)≤ε) :
  chg (chainF f.length f (deriveL f)) u-chg (chainF f.length f (deriveL f)) v≤1∧(evalL f u=0→chg (chainF f.length f (deriveL f)) u-chg (chainF f.length f (deriveL f)) v≤0):=by
 rcases big_or_small f hu hv huv Rat.le_refl hε hl1 with ⟨s,hs,hb⟩|hsm
 ·have hw:Away f u v:=⟨ε,hε,fun x a b=>(hb x a b).2⟩
  have:=chg_keep hz hf hc huv hw
  exact⟨by omega,fun _=>by omega⟩
 ·rcases big_or_small (deriveL f) hu hv huv Rat.le_refl hε hl2 with ⟨s,hs,hb⟩|hsm2
  ·have e:=chg_mono hz hf hc huv hs hε hb
   constructor
   ·split at e<;>split at e<;>omega
   ·intro h0
    have hz0:sg (evalL f u) ≠ -s:=by rw[h0];rcases hs with rfl|rfl<;>decide
    rw[if_neg hz0] at e
    split at e<;>omega
  ·exfalso
   have a1:=ab_eval hu U
   have a2:=ab_eval hu V
   have a3:=hsm u Rat.le_refl huv
   have a4:=hsm2 u Rat.le_refl huv
   have a5:=ab_add (evalL U u*evalL f u) (evalL V u*evalL (deriveL f) u)
   rw[hU u,ab_mul,ab_mul] at a5
   have hR:=Rat.le_trans (ab_nonneg u) hu
   have b1:=mul_le_mul' a1 (Rat.le_of_lt a3) (ab_nonneg _) (by grind)
   have b2:=mul_le_mul' a2 (Rat.le_of_lt a4) (ab_nonneg _) (by grind)
   have e1:ab (1:Rat)=1:=by decide +kernel
   rw[e1] at a5
   grind
def twP(n:Nat):Rat:=(((2^n:Nat):Int):Rat)
theorem twP_add(m n:Nat):twP (m+n)=twP m*twP n:=by
 unfold twP
 rw[Nat.pow_add,Int.natCast_mul,Rat.intCast_mul]
theorem twP_mono{m n:Nat}(h:m≤n):twP m≤twP n:=Rat.intCast_le_intCast.2 (by have:=Nat.pow_le_pow_right (n:=2) (by omega) h;omega)
theorem twP_zero:twP 0=1:=rfl
theorem twP_ge(n:Nat):1≤twP n:=by rw[←twP_zero];exact twP_mono (Nat.zero_le _)
theorem twP_pos(n:Nat):0<twP n:=by have:=twP_ge n;grind
theorem twP_succ(n:Nat):twP (n+1)=twP n+twP n:=by
 rw[twP_add]
 have:twP 1=2:=rfl
 rw[this];grind
theorem x_den(x:Rat):x*((x.den:Int):Rat)=(x.num:Rat):=by
 have h:(x.num:Rat)/((x.den:Int):Rat)=x:=by rw[←Rat.divInt_eq_div,Rat.num_divInt_den]
 have hd:((x.den:Int):Rat)≠0:=cast_ne (by have:=x.den_pos;omega)
 have:=Rat.div_mul_cancel (a:=(x.num:Rat)) hd
 rwa[h] at this
theorem ab_int(n:Int):ab (n:Rat)=((n.natAbs:Int):Rat):=by
 rcases ab_cases (n:Rat) with ⟨h1,h2⟩|⟨h1,h2⟩
 ·have:0≤n:=Rat.intCast_le_intCast.1 h1
  rw[h2];congr 1;omega
 ·have:n<0:=Rat.intCast_lt_intCast.1 h1
  rw[h2,←Rat.intCast_neg];congr 1;omega
theorem pow_words(k:Nat):4294967296^k=2^(32*k):=by rw[Nat.pow_mul]
theorem int_tw(n:Int){k:Nat}(h:wl n≤k):ab (n:Rat)≤twP (32*k):=by
 rw[ab_int]
 have h1:=wl_lt n
 have h2:4294967296^wl n≤4294967296^k:=Nat.pow_le_pow_right (by omega) h
 rw[pow_words k] at h2
 unfold twP
 exact Rat.intCast_le_intCast.2 (by omega)
theorem den_pos'(x:Rat):(1:Rat)≤((x.den:Int):Rat):=by
 have:=x.den_pos
 exact Rat.intCast_le_intCast.2 (show (1:Int)≤_ by omega)
theorem ab_ht(x:Rat):ab x≤twP (32*ht x):=by
 have h:=x_den x
 have h1:=int_tw x.num (ht_num x)
 have h2:=den_pos' x
 rw[←h,ab_mul,ab_int] at h1
 have e:(((x.den:Int).natAbs:Int):Rat)=((x.den:Int):Rat):=by congr 1
 rw[e] at h1
 have:=Rat.mul_le_mul_of_nonneg_left h2 (ab_nonneg x)
 grind
theorem nrm_add{R:Rat}(hR:0≤R):∀p q:List Rat,nrm (addL p q) R≤nrm p R+nrm q R
 |[],q=>by rw[addL,nrm];grind
 |a::p,[]=>by rw[addL];show _≤_+0;grind
 |a::p,b::q=>by
  have:=Rat.mul_le_mul_of_nonneg_right (nrm_add hR p q) hR
  have h2:=ab_add a b
  rw[addL,nrm,nrm,nrm];grind
theorem nrm_smul(c R:Rat):∀p:List Rat,nrm (smulL c p) R=ab c*nrm p R
 |[]=>by show(0:Rat)=_*0;grind
 |a::p=>by
  show nrm (smulL c p) R*R+ab (c*a)=_
  rw[nrm_smul c R p,ab_mul,nrm];grind
theorem nrm_mul{R:Rat}(hR:0≤R)(q:List Rat):∀p:List Rat,nrm (mulL p q) R≤nrm p R*nrm q R
 |[]=>by show(0:Rat)≤0*_;grind
 |a::p=>by
  rw[mulL]
  have h1:=nrm_add hR (smulL a q) (0::mulL p q)
  rw[nrm_smul] at h1
  have h2:nrm (0::mulL p q) R=nrm (mulL p q) R*R+ab 0:=rfl
  have h3:=Rat.mul_le_mul_of_nonneg_right (nrm_mul hR q p) hR
  rw[h2,ab_zero] at h1
  rw[nrm]
  grind
theorem nrm_tw{R:Rat}{r c:Nat}(hR:0≤R)(hr:R≤twP r):∀p:List Rat,(∀x∈p,ab x≤twP c)→nrm p R≤twP (c+(r+1)*p.length)
 |[],_=>Rat.le_of_lt (twP_pos _)
 |a::p,h=>by
  have ih:=nrm_tw hR hr p (fun x hx=>h x (List.mem_cons_of_mem _ hx))
  have ha:=h a (List.mem_cons_self ..)
  have h1:=mul_le_mul' ih hr (nrm_nonneg hR p) (Rat.le_of_lt (twP_pos r))
  rw[←twP_add] at h1
  have h2:=twP_mono (show c≤c+(r+1)*p.length+r by omega)
  rw[nrm,List.length_cons,show c+(r+1)*(p.length+1)=c+(r+1)*p.length+r+1 from by rw[Nat.mul_add];omega,twP_succ]
  grind
theorem lip_tw{R:Rat}{r c:Nat}(hR:0≤R)(hr:R≤twP r):∀p:List Rat,(∀x∈p,ab x≤twP c)→lip p R≤twP (c+(r+2)*p.length)
 |[],_=>Rat.le_of_lt (twP_pos _)
 |a::p,h=>by
  have hp:=fun x hx=>h x (List.mem_cons_of_mem a hx)
  have ih:=lip_tw hR hr p hp
  have hn:=nrm_tw hR hr p hp
  have h1:=mul_le_mul' ih hr (lip_nonneg hR p) (Rat.le_of_lt (twP_pos r))
  rw[←twP_add] at h1
  have e1:(r+2)*p.length=(r+1)*p.length+p.length:=by rw[show r+2=r+1+1 from rfl,Nat.add_mul (r+1) 1];omega
  have h2:=twP_mono (show c+(r+1)*p.length≤c+(r+2)*p.length+r by omega)
  have h3:=twP_mono (show c+(r+2)*p.length+r+1≤c+(r+2)*(p.length+1) by rw[Nat.mul_add];omega)
  rw[twP_succ] at h3
  rw[lip,List.length_cons]
  grind
theorem fl_tw{h:Nat}{p:List Rat}(hp:Fl h p):∀x∈p,ab x≤twP (32*h):=fun x hx=>Rat.le_trans (ab_ht x) (twP_mono (by have:=hp x hx;omega))
theorem cofac{a b N r:Nat}{R:Rat}(ha:1≤a)(hab:a≤b)(hR:0≤R)(hr:R≤twP r)(hs:(r+1)*(N+2)+1≤64*a):∀(n i j:Nat) (p d:List Rat),Euc a b N i j p d→d≠[]→Cop p d→d.length<n+1 →
  ∃U V:List Rat,(∀x,evalL U x*evalL p x+evalL V x*evalL d x=1)∧nrm U R≤twP (32*(4*xB a b (N-1)-3*xB a b j))∧nrm V R≤twP (32*(4*xB a b (N-1)-3*xB a b j))
 |0,i,j,p,d,_,h0,_,hl=>absurd (List.eq_nil_of_length_eq_zero (by omega)) h0
 |n+1,i,j,p,d,e,h0,hc,hl=>by
  have hbd:=e.bound
  have hlen:=e.len
  have hd1:=List.length_pos_iff.2 h0
  have hij:=e.lt
  have x1:∀j,1≤xB a b j:=fun j=>Nat.le_trans ha (xB_le a b hab (i:=0) (Nat.zero_le _))
  have hjN:=xB_le a b hab (i:=j) (j:=N-1) (by omega)
  by_cases hrr:trimL (smulL (-1) (restL p d))=[]
  ·obtain⟨c,rfl,hc0⟩:=cop_last e.zq h0 hc hrr
   refine⟨[],[1/c],fun x => ?_,Rat.le_of_lt (twP_pos _),?_⟩
   ·rw[eval_c,eval_c,Rat.div_mul_cancel hc0]
    show 0*_+1=1
    grind
   ·have e1:nrm [1/c] R=ab (1/c):=by show 0*R+_=_;grind
    have hh:=ht_div 1 c
    have hcc:=e.hq.fl (x1 j) c (by simp)
    have hi:=ht_inv c
    have hcv:1/c=c⁻¹:=by rw[Rat.div_def,Rat.one_mul]
    rw[e1]
    refine Rat.le_trans (ab_ht _) (twP_mono ?_)
    rw[hcv]
    omega
  ·obtain⟨r1,r2⟩:=e.rest hab h0
   have hrl:=rest_neg_len (p:=p) e.zq h0
   have hr1:=List.length_pos_iff.2 hrr
   have hcr:Ch (xB a b (j+(p.length-d.length))) (trimL (smulL (-1) (restL p d))):=by
    refine Ch.trim ?_
    obtain⟨D,d1,d2,d3⟩:=r1
    refine⟨D,d1,d2,fun i => ?_⟩
    obtain⟨m,m1,m2⟩:=d3 i
    refine⟨-m,?_,by rw[wl_neg];exact m2⟩
    rw[coef_smulL,Rat.intCast_neg,←m1];grind
   obtain⟨U,V,hUV,hnU,hnV⟩:=cofac ha hab hR hr hs n j _ d _ (e.next hab h0 hcr hrl (lastZ_trimL _)) hrr (cop_next e.zq h0 hc) (by omega)
   have hq:=ht_quot e.hp e.hq (x1 i) (x1 j) e.zq h0
   have hql:=divL_len (p:=p) e.zq h0
   obtain⟨j',rfl⟩:∃j',j=j'+1:=⟨j-1,by omega⟩
   obtain⟨δ,hδ⟩:∃δ,p.length-d.length=δ+1:=⟨p.length-d.length-1,by omega⟩
   have hg:=xB_gap a b hab j' δ
   have hi:=xB_le a b hab (i:=i) (j:=j') (by omega)
   have h0':=xB_le a b hab (i:=0) (j:=j') (by omega)
   have e00:xB a b 0=a:=rfl
   rw[hδ] at hnU hnV
   have hgN:=xB_le a b hab (i:=j'+1+(δ+1)) (j:=N-1) (by omega)
   have hq':xB a b i+(p.length+1-d.length)*(xB a b (j'+1)+1)+xB a b (j'+1)≤xB a b (j'+1+(δ+1))+xB a b (j'+1):=by
    rw[show p.length+1-d.length=δ+2 from by omega];omega
   have hnq:=nrm_tw hR hr _ (fl_tw (fl_mono hq hq'))
   have hqm:(r+1)*(divL p d).1.length≤(r+1)*(N+2):=Nat.mul_le_mul_left _ (by omega)
   have two:2*(xB a b (j'+1)+1)≤(δ+2)*(xB a b (j'+1)+1):=Nat.mul_le_mul_right _ (by omega)
   have hnq2:=Rat.le_trans hnq (twP_mono (show _≤32*(xB a b (j'+1+(δ+1))+xB a b (j'+1))+((r+1)*(N+2)) by omega))
   generalize hS:32*(4*xB a b (N-1)-3*xB a b (j'+1+(δ+1)))=S at hnU hnV
   generalize hQ:32*(xB a b (j'+1+(δ+1))+xB a b (j'+1))+((r+1)*(N+2))=Q at hnq2
   have hT:S+Q+1≤32*(4*xB a b (N-1)-3*xB a b (j'+1)):=by omega
   refine⟨smulL (-1) V,addL U (mulL V (divL p d).1),fun x => ?_,?_,?_⟩
   ·have k1:=hUV x
    have k2:=rest_neg_eval (p:=p) e.zq h0 x
    rw[evalL_smulL,evalL_addL,evalL_mulL]
    have k3:evalL (trimL (smulL (-1) (restL p d))) x=evalL (divL p d).1 x*evalL d x-evalL p x:=by grind
    rw[k3] at k1
    grind
   ·rw[nrm_smul,show ab (-1:Rat)=1 from by decide +kernel,Rat.one_mul]
    exact Rat.le_trans hnV (twP_mono (by omega))
   ·have m1:=nrm_add hR U (mulL V (divL p d).1)
    have m2:=nrm_mul hR (divL p d).1 V
    have m3:=mul_le_mul' hnV hnq2 (nrm_nonneg hR V) (Rat.le_of_lt (twP_pos _))
    rw[←twP_add] at m3
    have m4:=twP_mono (show S≤S+Q by omega)
    have m5:=twP_mono hT
    rw[twP_succ] at m5
    grind
theorem sep_width{f:List Rat}{a N r m:Nat}{R u v:Rat}(ha:1≤a)(e:Euc a (a+1) N 0 1 f (deriveL f))(hf:f≠[])(hc:Cop f (deriveL f))(hR:0≤R)(hr:R≤twP r)(hs:(r+1)*(N+2)+1≤64*a)(hu:ab u≤R)(hv:ab v≤R)(huv:u≤v)
  (hm:32*(4*xB a (a+1) (N-1))+32*(a+1)+(r+2)*f.length+3≤m) (hw:(v-u)*twP m≤1) :
  chg (chainF f.length f (deriveL f)) u-chg (chainF f.length f (deriveL f)) v≤1∧(evalL f u=0→chg (chainF f.length f (deriveL f)) u-chg (chainF f.length f (deriveL f)) v≤0):=by
 by_cases h2:deriveL f=[]
 ·rw[chain_const h2,chain_const h2]
  exact⟨by omega,fun _=>by omega⟩
 ·obtain⟨U,V,hUV,hU,hV⟩:=cofac ha (Nat.le_succ a) hR hr hs f.length 0 1 f (deriveL f) e h2 hc (by have:=e.len;omega)
  generalize hS:32*(4*xB a (a+1) (N-1)-3*xB a (a+1) 1)=S at hU hV
  have hS2:S≤32*(4*xB a (a+1) (N-1)):=by omega
  generalize 32*(4*xB a (a+1) (N-1))=S2 at hm hS2
  have e0:xB a (a+1) 0=a:=rfl
  have e1:xB a (a+1) 1=a+1:=rfl
  have l1:=lip_tw hR hr f (fl_tw (fl_mono (e.hp.fl (by rw[e0];exact ha)) (show xB a (a+1) 0≤a+1 by rw[e0];omega)))
  have l2:=lip_tw hR hr (deriveL f) (fl_tw (e.hq.fl (by rw[e1];omega)))
  rw[e1] at l2
  have hlen:(r+2)*(deriveL f).length≤(r+2)*f.length:=Nat.mul_le_mul_left _ (by have:=e.len;omega)
  have l2':=Rat.le_trans l2 (twP_mono (show 32*(a+1)+(r+2)*(deriveL f).length≤32*(a+1)+(r+2)*f.length by omega))
  generalize hL:32*(a+1)+(r+2)*f.length=L at l1 l2'
  have hp:=twP_pos (S+3)
  have hε:=div_pos' (show (0:Rat)<1 by decide) hp
  have hεe:=Rat.div_mul_cancel (a:=1) (b:=twP (S+3)) (by grind)
  generalize 1/twP (S+3)=ε at hε hεe
  have t1:twP (S+3)=8*twP S:=by rw[twP_add,show twP 3=8 from rfl];grind
  have hw0:0≤v-u:=by grind
  have key:∀l:Rat,0≤l→l≤twP L→l*(v-u)≤ε:=by
   intro l h0 hl
   have k1:=Rat.mul_le_mul_of_nonneg_right hl hw0
   have k2:=Rat.mul_le_mul_of_nonneg_left (twP_mono (show L+(S+3)≤m by omega)) hw0
   rw[twP_add] at k2
   have k3:twP L*(v-u)*twP (S+3)≤1:=by grind
   refine Rat.not_lt.1 fun hlt => ?_
   have k4:ε<twP L*(v-u):=by grind
   have k5:=Rat.mul_lt_mul_of_pos_right k4 hp
   grind
  refine sep (U:=U) (V:=V) (ε:=ε) e.zp hf hc hu hv huv hUV hε ?_ (key _ (lip_nonneg hR _) l1) (key _ (lip_nonneg hR _) l2')
  have k6:=Rat.mul_le_mul_of_nonneg_right (show nrm U R+nrm V R≤twP S+twP S by grind) (show 0≤2*ε by grind)
  rw[t1] at hεe
  have hpS:=Rat.mul_pos hε (twP_pos S)
  grind
end Go.Proofs.YtjadajceekjeoaaGreatDoor.Sym
namespace Go.Proofs.YtjadajceekjeoaaGreatDoor.Sym
open Go Path CInt
set_option linter.unusedVariables false
def ptQ(a w:Rat)(k j:Nat):Rat:=a+w*Rat.divInt (j:Int) ((2^k:Nat):Int)
theorem two_ne(k:Nat):(((2^k:Nat):Int):Rat)≠0:=fun e=>by
 have:=Rat.intCast_inj.1 (show (((2^k:Nat):Int):Rat)=((0:Int):Rat) from e)
 have:=Nat.pow_pos (n:=k) (show 0<2 by omega)
 omega
theorem pt_even(a w:Rat)(k j:Nat):ptQ a w (k+1) (2*j)=ptQ a w k j:=by
 unfold ptQ
 congr 2
 have h:=two_ne k
 have h2:=two_ne (k+1)
 rw[Rat.divInt_eq_div,Rat.divInt_eq_div,Rat.div_def,Rat.div_def]
 have e:(((2^(k+1):Nat):Int):Rat)=(((2^k:Nat):Int):Rat)*2:=by
  rw[show (2:Rat)=((2:Int):Rat) from rfl,←Rat.intCast_mul];congr 1
 have e2:((2*j:Nat):Int)=(j:Int)*2:=by omega
 rw[e,e2,Rat.intCast_mul,show(((2:Int)):Rat)=2 from rfl,Rat.inv_mul_rev]
 have i2:(2:Rat)*2⁻¹=1:=by decide +kernel
 generalize ((((2^k:Nat):Int):Rat))⁻¹=u
 generalize ((j:Int):Rat)=v
 have:v*2*(2⁻¹*u)=v*(2*2⁻¹)*u:=by grind
 rw[this,i2];grind
theorem pt_odd(a w:Rat)(k j:Nat):Rat.divInt 1 2*(ptQ a w k j+ptQ a w k (j+1))=ptQ a w (k+1) (2*j+1):=by
 rw[←pt_even a w k j,←pt_even a w k (j+1)]
 unfold ptQ
 rw[Rat.divInt_eq_div,Rat.divInt_eq_div,Rat.divInt_eq_div,Rat.divInt_eq_div,Rat.div_def,Rat.div_def,Rat.div_def,Rat.div_def]
 generalize ((((2^(k+1):Nat):Int):Rat))⁻¹=u
 have e1:((2*j:Nat):Int)=2*(j:Int):=by omega
 have e2:((2*(j+1):Nat):Int)=2*(j:Int)+2:=by omega
 have e3:((2*j+1:Nat):Int)=2*(j:Int)+1:=by omega
 rw[e1,e2,e3,Rat.intCast_add,Rat.intCast_add,Rat.intCast_mul]
 generalize ((j:Int):Rat)=v
 have i2:((1:Int):Rat)*(((2:Int):Rat))⁻¹=1/2:=by decide +kernel
 rw[i2,show((2:Int):Rat)=2 from rfl,show((1:Int):Rat)=1 from rfl]
 grind
theorem pt_le{w:Rat}(a:Rat)(h:0≤w)(k j:Nat):ptQ a w k j≤ptQ a w k (j+1):=by
 unfold ptQ
 have h2:Rat.divInt (j:Int) ((2^k:Nat):Int)≤Rat.divInt ((j+1:Nat):Int) ((2^k:Nat):Int):=by
  rw[Rat.divInt_eq_div,Rat.divInt_eq_div,Rat.div_def,Rat.div_def]
  refine Rat.mul_le_mul_of_nonneg_right (Rat.intCast_le_intCast.2 (by omega)) (Rat.le_of_lt (Rat.inv_pos.2 ?_))
  have:=Nat.pow_pos (n:=k) (show 0<2 by omega)
  exact Rat.intCast_lt_intCast.2 (show (0:Int)<_ by omega)
 have:=Rat.mul_le_mul_of_nonneg_left h2 h
 grind
theorem wl_two(k:Nat){j:Nat}(hj:j≤2^k):wl (j:Int)≤k/32+1:=by
 refine wl_le ?_
 have h1:2^k<2^(32*(k/32+1)):=Nat.pow_lt_pow_right (by omega) (by omega)
 rw[Nat.pow_mul] at h1
 have h2:(2:Nat)^32=4294967296:=by decide
 rw[h2] at h1
 generalize 4294967296^(k/32+1)=P at h1 ⊢
 omega
theorem pt_ht2(a w:Rat){k j:Nat}(hj:j≤2^k):ht (ptQ a w k j)≤ht a+ht w+k/32+4:=by
 have h3:=ht_divInt (j:Int) ((2^k:Nat):Int)
 have h6:=wl_two k hj
 have h7:=wl_two k (Nat.le_refl (2^k))
 have h8:=ht_mul w (Rat.divInt (j:Int) ((2^k:Nat):Int))
 have h9:=ht_add a (w*Rat.divInt (j:Int) ((2^k:Nat):Int))
 unfold ptQ
 omega
theorem pt_width(a w:Rat)(k j:Nat):ptQ a w k (j+1)-ptQ a w k j=w*Rat.divInt 1 ((2^k:Nat):Int):=by
 unfold ptQ
 rw[Rat.divInt_eq_div,Rat.divInt_eq_div,Rat.divInt_eq_div,Rat.div_def,Rat.div_def,Rat.div_def]
 have e:(((j+1:Nat):Int):Rat)=((j:Int):Rat)+1:=by
  rw[show ((j+1:Nat):Int)=(j:Int)+1 from by omega,Rat.intCast_add];rfl
 have e1:((1:Int):Rat)=1:=rfl
 rw[e,e1]
 generalize ((((2^k:Nat):Int):Rat))⁻¹=u
 grind
theorem pt_zero(a w:Rat):ptQ a w 0 0=a∧ptQ a w 0 1=a+w:=by
 have e0:Rat.divInt ((0:Nat):Int) ((2^0:Nat):Int)=0:=by decide +kernel
 have e1:Rat.divInt ((1:Nat):Int) ((2^0:Nat):Int)=1:=by decide +kernel
 unfold ptQ
 rw[e0,e1]
 constructor<;>grind
def refQ(f:List Rat)(low:Int)(a w wd:Rat):Nat→Nat→Nat→Rat×Rat
 |0,k,j=>(ptQ a w k j,ptQ a w k (j+1))
 |n+1,k,j=>if w*Rat.divInt 1 ((2^k:Nat):Int)≤wd then (ptQ a w k j,ptQ a w k (j+1)) else
  if evalL f (ptQ a w (k+1) (2*j+1))=0 then (ptQ a w (k+1) (2*j+1),ptQ a w (k+1) (2*j+1)) else
  if cmpR (evalL f (ptQ a w (k+1) (2*j+1))) 0=low then refQ f low a w wd n (k+1) (2*j+1) else refQ f low a w wd n (k+1) (2*j)
end Go.Proofs.YtjadajceekjeoaaGreatDoor.Sym
namespace Go.Proofs.YtjadajceekjeoaaGreatDoor.Sym
open Go Path CInt
set_option linter.unusedVariables false
def srchF(G:List (List Rat))(f:List Rat)(a w:Rat):Nat→Nat→Nat→Option (List (Rat×Rat))
 |0,_,_=>none
 |n+1,k,j=>if chg G (ptQ a w k j)-chg G (ptQ a w k (j+1))=0 then some [] else
  if chg G (ptQ a w k j)-chg G (ptQ a w k (j+1))=1∧evalL f (ptQ a w k j)≠0 then
   (if evalL f (ptQ a w k (j+1))=0 then some [(ptQ a w k (j+1),ptQ a w k (j+1))] else some [(ptQ a w k j,ptQ a w k (j+1))])
  else match srchF G f a w n (k+1) (2*j),srchF G f a w n (k+1) (2*j+1) with
   |some x,some y=>some (x++y)
   |_,_=>none
theorem srch_len{G:List (List Rat)}{f:List Rat}{a w:Rat} : ∀(n k j:Nat) (l:List (Rat×Rat)),srchF G f a w n k j=some l→(l.length:Int)=chg G (ptQ a w k j)-chg G (ptQ a w k (j+1))
 |0,_,_,_,h=>by cases h
 |n+1,k,j,l,h=>by
  rw[srchF] at h
  by_cases h0:chg G (ptQ a w k j)-chg G (ptQ a w k (j+1))=0
  ·rw[if_pos h0] at h;injection h with h;subst h;exact h0.symm
  ·rw[if_neg h0] at h
   by_cases h1:chg G (ptQ a w k j)-chg G (ptQ a w k (j+1))=1∧evalL f (ptQ a w k j)≠0
   ·rw[if_pos h1] at h
    split at h<;>(injection h with h;subst h;exact h1.1.symm)
   ·rw[if_neg h1] at h
    cases hx:srchF G f a w n (k+1) (2*j) with
    |none=>rw[hx] at h;cases h
    |some x =>
     cases hy:srchF G f a w n (k+1) (2*j+1) with
     |none=>rw[hx,hy] at h;cases h
     |some y =>
      rw[hx,hy] at h
      injection h with h;subst h
      have i1:=srch_len n _ _ _ hx
      have i2:=srch_len n _ _ _ hy
      rw[pt_even] at i1
      rw[show 2*j+1+1=2*(j+1) from by omega,pt_even] at i2
      rw[List.length_append]
      omega
theorem pt_ge{a w:Rat}(hw:0≤w){k j:Nat} : a≤ptQ a w k j:=by
 unfold ptQ
 have h2:0≤Rat.divInt (j:Int) ((2^k:Nat):Int):=by
  rw[Rat.divInt_eq_div,Rat.div_def]
  refine Rat.mul_nonneg (Rat.intCast_le_intCast.2 (show (0:Int)≤_ by omega)) (Rat.le_of_lt (Rat.inv_pos.2 ?_))
  have:=Nat.pow_pos (n:=k) (show 0<2 by omega)
  exact Rat.intCast_lt_intCast.2 (show (0:Int)<_ by omega)
 have:=Rat.mul_nonneg hw h2
 grind
theorem pt_top(a w:Rat)(k:Nat):ptQ a w k (2^k)=a+w:=by
 unfold ptQ
 rw[Rat.divInt_eq_div,Rat.div_def,Rat.mul_inv_cancel _ (two_ne k)]
 grind
theorem pt_mono{a w:Rat}(hw:0≤w){k i j:Nat}(h:i≤j):ptQ a w k i≤ptQ a w k j:=by
 induction h with
 |refl=>exact Rat.le_refl
 |step _ ih=>exact Rat.le_trans ih (pt_le a hw k _)
theorem srch_some{f:List Rat}{a w:Rat}{K:Nat}(hw:0≤w)(hz:lastZ f=false)(hf:f≠[])(hc:Cop f (deriveL f))
  (hs:∀j,j<2^K→chg (chainF f.length f (deriveL f)) (ptQ a w K j)-chg (chainF f.length f (deriveL f)) (ptQ a w K (j+1))≤1∧(evalL f (ptQ a w K j)=0→chg (chainF f.length f (deriveL f)) (ptQ a w K j)-chg (chainF f.length f (deriveL f)) (ptQ a w K (j+1))≤0)) :
  ∀(n k j:Nat),n+k=K+1→k≤K→j<2^k→∃l,srchF (chainF f.length f (deriveL f)) f a w n k j=some l
 |0,k,j,hn,hk,hj=>by omega
 |n+1,k,j,hn,hk,hj=>by
  have ha:=chg_anti hz hf hc (pt_le a hw k j)
  rw[srchF]
  by_cases h0:chg (chainF f.length f (deriveL f)) (ptQ a w k j)-chg (chainF f.length f (deriveL f)) (ptQ a w k (j+1))=0
  ·exact⟨_,if_pos h0⟩
  ·rw[if_neg h0]
   by_cases h1:chg (chainF f.length f (deriveL f)) (ptQ a w k j)-chg (chainF f.length f (deriveL f)) (ptQ a w k (j+1))=1∧evalL f (ptQ a w k j)≠0
   ·rw[if_pos h1]
    split
    ·exact⟨_,rfl⟩
    ·exact⟨_,rfl⟩
   ·rw[if_neg h1]
    by_cases hkK:k=K
    ·subst hkK
     obtain⟨s1,s2⟩:=hs j hj
     exact absurd ⟨by omega,fun e=>by have:=s2 e;omega⟩ h1
    ·have hp:2^(k+1)=2*2^k:=by rw[Nat.pow_succ];omega
     obtain⟨x,hx⟩:=srch_some hw hz hf hc hs n (k+1) (2*j) (by omega) (by omega) (by omega)
     obtain⟨y,hy⟩:=srch_some hw hz hf hc hs n (k+1) (2*j+1) (by omega) (by omega) (by omega)
     rw[hx,hy]
     exact⟨_,rfl⟩
end Go.Proofs.YtjadajceekjeoaaGreatDoor.Sym
namespace Go.Proofs.YtjadajceekjeoaaGreatDoor.Sym
open Go Path CInt
set_option linter.unusedVariables false
def bndF(m:Rat):Nat→Nat→Nat
 |0,j=>j
 |n+1,j=>if twP j<m then bndF m n (j+1) else j
def bndL(t:Rat):List Rat→Nat→Nat
 |[],j=>j
 |c::r,j=>bndL t r (bndF (1+ab (c/t)) (66-j) j)
def bndP(p:List Rat):Rat:=twP (bndL (topL p) p 0)
theorem bndF_spec{m:Rat}(hm:m≤twP 65):∀n j,n+j=66→j≤65→j≤bndF m n j∧bndF m n j≤65∧m≤twP (bndF m n j)
 |0,j,h,hj=>by omega
 |n+1,j,h,hj=>by
  rw[bndF]
  by_cases hlt:twP j<m
  ·rw[if_pos hlt]
   have:j<65:=by
    refine Nat.lt_of_not_le fun hh => ?_
    have:=twP_mono hh
    grind
   obtain⟨a,b,c⟩:=bndF_spec hm n (j+1) (by omega) (by omega)
   exact⟨by omega,b,c⟩
  ·rw[if_neg hlt]
   exact⟨Nat.le_refl _,hj,by grind⟩
theorem quo_tw{c t:Rat}(hc:ht c≤1)(ht':ht t≤1):1+ab (c/t)≤twP 65:=by
 have h1:=ab_ht (c/t)
 have h2:=ht_div c t
 have h3:=twP_mono (show 32*ht (c/t)≤64 by omega)
 have h4:=twP_ge 64
 have h5:twP 65=twP 64+twP 64:=twP_succ 64
 grind
theorem bndL_spec{t:Rat} : ∀(p:List Rat) (j:Nat),(∀c∈p,1+ab (c/t)≤twP 65)→j≤65→j≤bndL t p j∧bndL t p j≤65∧∀c∈p,1+ab (c/t)≤twP (bndL t p j)
 |[],j,_,hj=>⟨Nat.le_refl _,hj,fun c h=>by cases h⟩
 |c::r,j,h,hj=>by
  obtain⟨a1,a2,a3⟩:=bndF_spec (h c (List.mem_cons_self ..)) (66-j) j (by omega) hj
  obtain⟨b1,b2,b3⟩:=bndL_spec r _ (fun x hx=>h x (List.mem_cons_of_mem _ hx)) a2
  rw[bndL]
  refine⟨by omega,b2,fun x hx => ?_⟩
  rcases List.mem_cons.1 hx with rfl|hx
  ·exact Rat.le_trans a3 (twP_mono b1)
  ·exact b3 x hx
theorem ht_twP{j:Nat}(h:j≤66):ht (twP j)≤3:=by
 unfold twP
 rw[ht_int]
 refine Nat.max_le.2 ⟨wl_le ?_,by omega⟩
 have h1:2^j<2^96:=Nat.pow_lt_pow_right (by omega) (by omega)
 have h2:(2:Nat)^96=4294967296^3:=by decide
 rw[h2] at h1
 generalize 2^j=x at h1 ⊢
 generalize 4294967296^3=y at h1 ⊢
 omega
def Bd(p:List Rat):Prop:=Fl 4 p∧∀c∈p,1+ab (c/topL p)≤twP 65
theorem top_ht1{p:List Rat}(hp:Fl 1 p):ht (topL p)≤1:=by
 unfold topL
 exact fl_coef hp (by omega) _
theorem Fl.bd{p:List Rat}(hp:Fl 1 p):Bd p:=⟨fl_mono hp (by omega),fun c hc=>quo_tw (hp c hc) (top_ht1 hp)⟩
theorem top_ht{p:List Rat}(hp:Bd p):ht (topL p)≤4:=by
 unfold topL
 exact fl_coef hp.1 (by omega) _
theorem bnd_ht{p:List Rat}(hp:Bd p):ht (bndP p)≤3:=ht_twP (by have:=(bndL_spec p 0 hp.2 (by omega)).2.1;omega)
theorem bnd_pos(p:List Rat):0<bndP p:=twP_pos _
theorem bnd_cau{p:List Rat}(hz:lastZ p=false)(h0:p≠[])(hp:Bd p):Cau p (bndP p):=by
 intro c hc
 have h1:=(bndL_spec p 0 hp.2 (by omega)).2.2 c hc
 have ht':=top_ne hz h0
 have h2:ab (c/topL p)*ab (topL p)=ab c:=by rw[←ab_mul,Rat.div_mul_cancel ht']
 have h3:=Rat.mul_le_mul_of_nonneg_right h1 (ab_nonneg (topL p))
 unfold bndP
 grind
theorem bnd_le(p:List Rat)(hp:Bd p):bndP p≤twP 65:=twP_mono (bndL_spec p 0 hp.2 (by omega)).2.1
theorem if_ab(q:Rat):(if q<0 then -q else q)=ab q:=by
 rcases ab_cases q with ⟨h1,h2⟩|⟨h1,h2⟩
 ·rw[if_neg (by grind),h2]
 ·rw[if_pos h1,h2]
theorem get_top{p:List Rat}(h0:p≠[]):(p.map mkR)[p.length-1]? = some (mkR (topL p)):=by
 have:=List.length_pos_iff.2 h0
 have e:p[p.length-1]? = some (topL p):=by
  unfold topL
  rw[coef_get (show p.length-1<p.length by omega)]
 rw[List.getElem?_map,e];rfl
theorem free_root{p:List Rat}(hz:lastZ p=false)(h0:p≠[])(x:Rat):evalL p x=0↔evalL (freeL p) x=0:=by
 obtain⟨f1,f2,f3,⟨u,hu⟩,k,hk,v,hv⟩:=free_spec hz h0
 constructor
 ·intro h
  have h1:=hv x
  rw[h,Rat.mul_zero,evalL_powL] at h1
  refine Classical.byContradiction fun hne => ?_
  have:∀n:Nat,evalL (freeL p) x^n≠0:=fun n=>by
   induction n with
   |zero=>rw[Rat.pow_zero];decide
   |succ n ih=>rw[Rat.pow_succ];intro e;rcases Rat.mul_eq_zero.1 e with e|e;exact ih e;exact hne e
  exact this k h1
 ·intro h;rw[hu,h,Rat.mul_zero]
def isoQ(p:List Rat)(lo hi:Rat):Bool:=bif decide (lo=hi) then decide (evalL (freeL p) lo=0) else (decide (sg (evalL (freeL p) lo)*sg (evalL (freeL p) hi) = -1)&&decide (chg (chainL p) lo-chg (chainL p) hi=1))
def isoB(p:List Rat)(r:ARange):Bool:=r.ok&&isoQ p (loG r) (hiG r)
theorem sg_zero{x:Rat} : sg x=0↔x=0:=by rcases sg_cases x with ⟨h1,h2⟩|⟨h1,h2⟩|⟨h1,h2⟩<;>constructor<;>intro h<;>first|exact h1|exact h2|(exfalso;rw[h2] at h;exact absurd h (by decide))|(exfalso;grind)
theorem cmpR_eq0{p q:Rat} : cmpR p q=0↔p=q:=by
 unfold cmpR
 by_cases h1:p<q
 ·rw[if_pos h1];constructor
  ·intro h;exact absurd h (by decide)
  ·intro h;subst h;exact absurd h1 Rat.lt_irrefl
 ·rw[if_neg h1]
  by_cases h2:p=q
  ·rw[if_pos h2];exact⟨fun _=>h2,fun _=>rfl⟩
  ·rw[if_neg h2];exact⟨fun h=>absurd h (by decide),fun h=>absurd h h2⟩
theorem beq_dec{a b:Int}{q:Prop}[Decidable q](h:a=b↔q):(a==b)=decide q:=by
 by_cases hq:q
 ·rw[decide_eq_true hq,h.2 hq];simp
 ·rw[decide_eq_false hq]
  have:a≠b:=fun e=>hq (h.1 e)
  simpa using this
theorem sg_mul_rng(x y:Rat):InI64 (sg x*sg y):=by
 unfold InI64
 rcases sg_three x with h|h|h<;>rcases sg_three y with k|k|k<;>rw[h,k]<;>decide
theorem Fine.free_fl{h L:Nat}{p:List Rat}(f:Fine h L p):Fl 1073741824 (freeL p):=fl_mono (f.free_ch.fl f.fb.2.2.1) f.fb.2.2.2.1
theorem Fine.free_len10{h L:Nat}{p:List Rat}(f:Fine h L p):(freeL p).length≤10:=by have:=f.free_len;have:=f.len;have:=f.hL;omega
theorem Fine.p_fl{h L:Nat}{p:List Rat}(f:Fine h L p):Fl 1073741824 p:=fl_mono (f.ch.fl f.h1) (by have:=f.fb;omega)
theorem Fine.p_len10{h L:Nat}{p:List Rat}(f:Fine h L p):p.length≤10:=by have:=f.len;have:=f.hL;omega
namespace CSt
theorem good{h L:Nat}{p:List Rat}(f:Fine h L p):Contract prg 46 [pq p] .nilI:=by
 have hck:=check (p.map mkR) (fitQ (f.ch.fl f.h1) (by have:=f.fb;omega))
 have hp:=List.length_pos_iff.2 f.ne
 rw[f.chk,if_pos rfl,if_neg (by rw[lenM];omega)] at hck
 exact hck
theorem value(q:List Rat)(x:Rat)(z:lastZ q=false)(fl:Fl 1073741824 q)(ln:q.length≤10)(hx:ht x≤1073741824):Contract prg 64 [pq q,(mkR x).pv] (vI (sg (evalL q x))):=by
 have hev:=CPo.Eval (q.map mkR) (mkR x) (chk_map z (by omega)) (fit_mapk fl) (fit_mkRk hx)
 rw[vals_mkR,mkR_val] at hev
 have h3:=ht_eval q x 1073741824 fl hx
 have h4:q.length*(2*1073741824+1)≤10*(2*1073741824+1):=Nat.mul_le_mul_right _ ln
 exact sturm_value.e0 _ _ _ none _ hev (QF.Sign (evalL q x) (by omega))
theorem Bound{h L:Nat}{p:List Rat}(f:Fine h L p)(h1:Bd p):Contract prg 15 [pq p] (.tup [(mkR (bndP p)).pv,.nilI]):=by
 have hone:=CFr.Of 1 (by unfold InI64;omega)
 have e1:((1:Int):Rat)=1:=rfl
 rw[e1] at hone
 have hlen:=f.p_len10
 have hpos:=List.length_pos_iff.2 f.ne
 have htop:=top_ht h1
 have htn:=top_ne f.zp f.ne
 have loop:∀d t j:Nat,p.length-t=d→t≤p.length→j≤65→sturm_Bound.Loop1 (p.map mkR) t (mkR (twP j)) (.tup [(mkR (twP (bndL (topL p) (p.drop t) j))).pv,.nilI]):=by
  intro d
  induction d with
  |zero =>
   intro t j hd ht hj
   rw[List.drop_of_length_le (by omega)]
   exact sturm_Bound.l12 _ t _ (by rw[lenM];omega)
  |succ d ih =>
   intro t j hd htt hj
   obtain⟨c,hc⟩:∃c,p[t]? = some c:=⟨_,List.getElem?_eq_getElem (by omega)⟩
   have hcm:(p.map mkR)[t]? = some (mkR c):=by rw[List.getElem?_map,hc];rfl
   have hc1:=h1.1 c (List.mem_of_getElem? hc)
   have hdv:=QF.Div c (topL p) (by omega) (by omega) htn
   have hq:=ht_div c (topL p)
   have hab:=QF.Abs (c/topL p) (by omega)
   rw[if_ab] at hab
   have hqt:=h1.2 c (List.mem_of_getElem? hc)
   have hht:ht (ab (c/topL p))≤8:=by
    rw[←if_ab];split
    ·rw[ht_neg];omega
    ·omega
   have hadd:=QF.Add 1 (ab (c/topL p)) (by decide) (by omega)
   have hh1:=ht_add 1 (ab (c/topL p))
   have h11:ht (1:Rat)=1:=by decide
   rw[drop_cons hc,bndL]
   have inner:∀n j,n+j=66→j≤65→sturm_Bound.Loop2 (p.map mkR) t (mkR (twP j)) (mkR (c/topL p)) (.tup [(mkR (twP (bndL (topL p) (p.drop (t+1)) (bndF (1+ab (c/topL p)) n j)))).pv,.nilI]):=by
    intro n
    induction n with
    |zero=>intro j h hj;omega
    |succ n ihn =>
     intro j hn hj
     have hjt:=ht_twP (j:=j) (by omega)
     have hcmp:=QF.Cmp (twP j) (1+ab (c/topL p)) (by omega) (by omega)
     rw[bndF]
     by_cases hlt:twP j<1+ab (c/topL p)
     ·rw[if_pos hlt]
      have hj65:j<65:=by
       refine Nat.lt_of_not_le fun hh => ?_
       have:=twP_mono hh
       grind
      have hd2:=QF.Add (twP j) (twP j) (by omega) (by omega)
      rw[←twP_succ] at hd2
      refine sturm_Bound.l20 _ t _ _ _ _ _ _ _ hone hab hadd hcmp ?_ hd2 (ihn (j+1) (by omega) (by omega))
      refine Int.lt_of_not_ge fun hh => ?_
      have:=cmpR_ge.1 hh
      grind
     ·rw[if_neg hlt]
      exact sturm_Bound.l21 _ t _ _ _ _ _ _ hone hab hadd hcmp (cmpR_ge.2 (by grind)) (by omega) (ih (t+1) j (by omega) (by omega) hj)
   refine sturm_Bound.l10 _ t _ _ (p.length-1) _ _ (by rw[lenM];omega) hcm (by rw[lenM];unfold InI64;omega) (by rw[lenM];omega) (get_top f.ne) hdv (inner (66-j) j (by omega) hj)
 have:=loop _ 0 0 rfl (by omega) (by omega)
 rw[List.drop_zero,twP_zero] at this
 exact sturm_Bound.e0 _ _ (good f) hone this
theorem All{h L:Nat}{p:List Rat}(f:Fine h L p)(h1:Bd p):Contract prg 14 [pq p] (.tup [vI (chg (chainL p) (-bndP p)-chg (chainL p) (bndP p)),.nilI]):=by
 have hb:=bnd_ht h1
 have h0:=bnd_pos p
 exact sturm_All.e0 _ _ _ _ none (Bound f h1) (QF.Neg _ (by omega)) (Count f _ _ (by grind) (by rw[ht_neg];omega) (by omega))
theorem isolating{h L:Nat}{p:List Rat}(f:Fine h L p)(r:ARange)(hr:FitG 1073741824 r):Contract prg 61 [pq p,r.pv] (.tup [vB (isoB p r),.nilI]):=by
 have hv:=CIv.Valid r ⟨⟨by omega,by omega⟩,⟨by omega,by omega⟩⟩
 obtain⟨f1,f2,_⟩:=free_spec f.zp f.ne
 cases ho:r.ok with
 |false =>
  rw[ho] at hv
  have:isoB p r=false:=by unfold isoB;rw[ho,Bool.false_and]
  rw[this]
  exact sturm_isolating.e0 _ r _ hv rfl
 |true =>
  rw[ho] at hv
  have hm:=mkG_of ho
  have h1:=ht_loG hr (by omega)
  have h2:=ht_hiG hr (by omega)
  have hle:=loG_le r
  have e0:isoB p r=isoQ p (loG r) (hiG r):=by unfold isoB;rw[ho,Bool.true_and]
  rw[e0]
  generalize loG r=lo at hm h1 hle ⊢
  generalize hiG r=hi at hm h2 hle ⊢
  subst hm
  have hc:=QF.Cmp lo hi (by omega) (by omega)
  unfold isoQ
  by_cases he:lo=hi
  ·rw[decide_eq_true he,cond_true]
   have hval:=value p lo f.zp f.p_fl f.p_len10 h1
   have:=sturm_isolating.e1 _ (mkG lo hi) _ _ _ hv rfl hc (by rw[he];exact cmpR_eq0.2 rfl) hval
   rw[beq_dec (q:=evalL (freeL p) lo=0) (by rw[sg_zero];exact free_root f.zp f.ne lo)] at this
   exact this
  ·rw[decide_eq_false he,cond_false]
   have hne:cmpR lo hi≠0:=fun e=>he (cmpR_eq0.1 e)
   have v1:=value (freeL p) lo f1 f.free_fl f.free_len10 h1
   have v2:=value (freeL p) hi f1 f.free_fl f.free_len10 h2
   by_cases hs:sg (evalL (freeL p) lo)*sg (evalL (freeL p) hi) = -1
   ·rw[decide_eq_true hs,Bool.true_and]
    have:=sturm_isolating.e3 _ (mkG lo hi) _ _ _ _ _ _ none hv rfl hc hne (CPl.Free f) v1 v2 (sg_mul_rng _ _) hs (Count f lo hi hle h1 h2)
    rw[beq_dec (q:=chg (chainL p) lo-chg (chainL p) hi=1) Iff.rfl] at this
    exact this
   ·rw[decide_eq_false hs,Bool.false_and]
    exact sturm_isolating.e2 _ (mkG lo hi) _ _ _ _ _ hv rfl hc hne (CPl.Free f) v1 v2 (sg_mul_rng _ _) hs
end CSt
end Go.Proofs.YtjadajceekjeoaaGreatDoor.Sym
namespace Go.Proofs.YtjadajceekjeoaaGreatDoor.Sym
open Go Path CInt
set_option linter.unusedVariables false
def mkGs(l:List (Rat×Rat)):List ARange:=l.map (fun r=>mkG r.1 r.2)
theorem mkGs_len(l:List (Rat×Rat)):(mkGs l).length=l.length:=List.length_map ..
theorem mkGs_app(l m:List (Rat×Rat)):mkGs (l++m)=mkGs l++mkGs m:=List.map_append ..
def isoK(h L:Nat):Nat:=32*(4*xB (fB h L) (fB h L+1) (L-1))+32*(fB h L+1)+67*L+3+67
def IsoOK(h L:Nat):Prop:=66*(L+2)+1≤64*fB h L∧isoK h L/32+20≤1073741824
instance (h L:Nat):Decidable (IsoOK h L):=by unfold IsoOK;infer_instance
def isoL(h L:Nat)(p:List Rat):List (Rat×Rat):=(srchF (chainL p) (freeL p) (-bndP p) (bndP p+bndP p) (isoK h L+1) 0 0).getD []
theorem bnd_two{p:List Rat}(hp:Bd p):bndP p+bndP p≤twP 66∧ht (bndP p+bndP p)≤3:=by
 have h:=(bndL_spec p 0 hp.2 (by omega)).2.1
 unfold bndP
 rw[←twP_succ]
 exact⟨twP_mono (by omega),ht_twP (by omega)⟩
theorem tw_inv(k:Nat):Rat.divInt 1 ((2^k:Nat):Int)*twP k=1:=by
 rw[Rat.divInt_eq_div]
 exact Rat.div_mul_cancel (two_ne k)
theorem iso_some{h L:Nat}{p:List Rat}(f:Fine h L p)(h1:Bd p)(ok:IsoOK h L):srchF (chainL p) (freeL p) (-bndP p) (bndP p+bndP p) (isoK h L+1) 0 0=some (isoL h L p):=by
 obtain⟨f1,f2,f3,_⟩:=free_spec f.zp f.ne
 have hb:=bnd_pos p
 have hw:0≤bndP p+bndP p:=by grind
 obtain⟨l,hl⟩:=srch_some (K:=isoK h L) (a := -bndP p) hw f1 f2 f3 (by
  intro j hj
  have w:=pt_width (-bndP p) (bndP p+bndP p) (isoK h L) j
  have k1:=pt_ge (a := -bndP p) hw (k:=isoK h L) (j:=j)
  have k2:=pt_mono (a := -bndP p) hw (k:=isoK h L) (show j+1≤2^isoK h L by omega)
  rw[pt_top] at k2
  have k3:=pt_le (-bndP p) hw (isoK h L) j
  have u1:ab (ptQ (-bndP p) (bndP p+bndP p) (isoK h L) j)≤bndP p:=ab_le (by grind) (by grind)
  have u2:ab (ptQ (-bndP p) (bndP p+bndP p) (isoK h L) (j+1))≤bndP p:=ab_le (by grind) (by grind)
  refine sep_width (r:=65) (m:=isoK h L-67) f.fb.2.2.1 f.free_euc f2 f3 (Rat.le_of_lt hb) (bnd_le p h1) ok.1 u1 u2 k3 ?_ ?_
  ·have hl:=f.free_len
   have hl2:=f.len
   have:(65+2)*(freeL p).length≤67*L:=Nat.mul_le_mul_left _ (by omega)
   unfold isoK
   omega
  ·rw[w]
   have e1:isoK h L=(isoK h L-67)+67:=by unfold isoK;omega
   have e2:=tw_inv (isoK h L)
   have e3:twP (isoK h L)=twP (isoK h L-67)*twP 67:=by rw[←twP_add,←e1]
   have b2:=(bnd_two h1).1
   have e4:=twP_mono (show 66≤67 by omega)
   generalize Rat.divInt 1 ((2^isoK h L:Nat):Int)=δ at e2 ⊢
   rw[e3] at e2
   have hp:=twP_pos (isoK h L-67)
   generalize twP (isoK h L-67)=T at e2 hp ⊢
   have hδ:0≤δ:=by
    refine Rat.not_lt.1 fun hlt => ?_
    have:=Rat.mul_pos hp (twP_pos 67)
    have:=Rat.mul_pos (show 0 < -δ by grind) this
    grind
   have:=Rat.mul_le_mul_of_nonneg_right (Rat.le_trans b2 e4) (Rat.mul_nonneg hδ (Rat.le_of_lt hp))
   grind) (isoK h L+1) 0 0 (by omega) (by omega) (by omega)
 have hl:srchF (chainL p) (freeL p) (-bndP p) (bndP p+bndP p) (isoK h L+1) 0 0=some l:=hl
 unfold isoL
 rw[hl];rfl
namespace CSt
theorem Mid(lo hi:Rat)(h1:ht lo≤1073741824)(h2:ht hi≤1073741824)(hle:lo≤hi):Contract prg 65 [(mkG lo hi).pv] (mkR (Rat.divInt 1 2*(lo+hi))).pv:=by
 have hc:=CIv.clean (mkG lo hi) (fit_mkG (Nat.le_trans h1 (by omega)) (Nat.le_trans h2 (by omega)))
 rw[loG_mk hle,hiG_mk hle] at hc
 have hh:=interval_half.e0 _ none (QF.Make 1 2 (by unfold InI64;omega) (by unfold InI64;omega) (by omega))
 have h3:=ht_add lo hi
 have h4:ht (Rat.divInt 1 2)≤1:=by decide
 exact interval_Mid.e0 _ (mkG lo hi) _ _ _ hc hh (QF.Add lo hi (by omega) (by omega)) (QF.Mul _ _ (by omega) (by omega))
theorem Width(lo hi:Rat)(h1:ht lo≤1073741824)(h2:ht hi≤1073741824)(hle:lo≤hi):Contract prg 39 [(mkG lo hi).pv] (mkR (hi-lo)).pv:=by
 have hc:=CIv.clean (mkG lo hi) (fit_mkG (Nat.le_trans h1 (by omega)) (Nat.le_trans h2 (by omega)))
 rw[loG_mk hle,hiG_mk hle] at hc
 exact interval_Width.e0 _ (mkG lo hi) _ hc (QF.Sub hi lo (by omega) (by omega))
theorem val_ne{p:List Rat}{x:Rat} : sg (evalL p x)≠0↔evalL p x≠0:=not_congr sg_zero
theorem searchG{h L:Nat}{p:List Rat}(f:Fine h L p){a w:Rat}{K:Nat}(hw:0≤w)(hh:ht a+ht w+K/32+4≤1073741824):∀(n k j:Nat) (l:List (Rat×Rat)) (out z:List ARange),n+k=K+1→j<2^k→srchF (chainL p) (freeL p) a w n k j=some l→z=out++mkGs l→z.length≤1000000 →
  ContractX prg 89 [(.row 200000 0 out.length 6),(.pv (pq p)),(.pv (pqs (chainL p))),(.pv (mkR (ptQ a w k j)).pv),(.pv (mkR (ptQ a w k (j+1))).pv)] [(200000,(.pure ((out:List ARange).map ARange.cells).flatten))] (.row 0 0 z.length 6) [(0,(.pure ((z:List ARange).map ARange.cells).flatten))] ∧
  (out=[]→ContractX prg 89 [(.pv .nilS),(.pv (pq p)),(.pv (pqs (chainL p))),(.pv (mkR (ptQ a w k j)).pv),(.pv (mkR (ptQ a w k (j+1))).pv)] [] (.row 0 0 z.length 6) [(0,(.pure ((z:List ARange).map ARange.cells).flatten))])
 |0,k,j,l,out,z,hn,hj,hl,hz,hlen=>by cases hl
 |n+1,k,j,l,out,z,hn,hj,hl,hz,hlen=>by
  have p1:=pt_ht2 a w (k:=k) (j:=j) (by omega)
  have p2:=pt_ht2 a w (k:=k) (j:=j+1) (by omega)
  have hkK:k/32≤K/32:=Nat.div_le_div_right (by omega)
  have hcc:=f.chain_count
  have c1:=changes (chainL p) (ptQ a w k j) (chain_all f) (by omega) (by omega)
  have c2:=changes (chainL p) (ptQ a w k (j+1)) (chain_all f) (by omega) (by omega)
  obtain⟨a1,a2⟩:=chg_range (chainL p) (ptQ a w k j)
  obtain⟨b1,b2⟩:=chg_range (chainL p) (ptQ a w k (j+1))
  have hI:InI64 (chg (chainL p) (ptQ a w k j)-chg (chainL p) (ptQ a w k (j+1))):=by unfold InI64;omega
  have v1:=value p (ptQ a w k j) f.zp f.p_fl f.p_len10 (by omega)
  have v2:=value p (ptQ a w k (j+1)) f.zp f.p_fl f.p_len10 (by omega)
  have r1:=free_root f.zp f.ne (ptQ a w k j)
  have r2:=free_root f.zp f.ne (ptQ a w k (j+1))
  have hle:=pt_le a hw k j
  have hmid:=Mid (ptQ a w k j) (ptQ a w k (j+1)) (by omega) (by omega) hle
  rw[pt_odd] at hmid
  have hpt:=CIv.Point (ptQ a w k (j+1)) (by omega)
  have z1:=QF.addZ (ptQ a w k j) (by omega)
  have z2:=QF.addZ (ptQ a w k (j+1)) (by omega)
  have hj1:2*j<2^(k+1):=by rw[Nat.pow_succ];omega
  have hj2:2*j+1<2^(k+1):=by rw[Nat.pow_succ];omega
  rw[srchF] at hl
  by_cases h0:chg (chainL p) (ptQ a w k j)-chg (chainL p) (ptQ a w k (j+1))=0
  ·rw[if_pos h0] at hl
   injection hl with hl;subst hl
   have:z=out:=by rw[hz];exact List.append_nil _
   subst this
   refine⟨sturm_searchG.e0 z _ _ _ _ _ _ c1 c2 hI h0,fun e => ?_⟩
   subst e
   exact sturm_searchN.e0 _ _ _ _ _ _ c1 c2 hI h0
  ·rw[if_neg h0] at hl
   have recu:∀l1 l2:List (Rat×Rat),srchF (chainL p) (freeL p) a w n (k+1) (2*j)=some l1→srchF (chainL p) (freeL p) a w n (k+1) (2*j+1)=some l2→z=(out++mkGs l1)++mkGs l2 →
     ContractX prg 89 [(.row 200000 0 out.length 6),(.pv (pq p)),(.pv (pqs (chainL p))),(.pv (mkR (ptQ a w k j)).pv),(.pv (mkR (ptQ a w (k+1) (2*j+1))).pv)] [(200000,(.pure ((out:List ARange).map ARange.cells).flatten))] (.row 0 0 (out++mkGs l1).length 6) [(0,(.pure (((out++mkGs l1):List ARange).map ARange.cells).flatten))] ∧
     ContractX prg 89 [(.row 200000 0 (out++mkGs l1).length 6),(.pv (pq p)),(.pv (pqs (chainL p))),(.pv (mkR (ptQ a w (k+1) (2*j+1))).pv),(.pv (mkR (ptQ a w k (j+1))).pv)] [(200000,(.pure (((out++mkGs l1):List ARange).map ARange.cells).flatten))] (.row 0 0 z.length 6) [(0,(.pure ((z:List ARange).map ARange.cells).flatten))]:=by
    intro l1 l2 e1 e2 ez
    have hz1:(out++mkGs l1).length≤1000000:=by
     rw[ez,List.length_append] at hlen;omega
    have i1:=(searchG f hw hh n (k+1) (2*j) l1 out (out++mkGs l1) (by omega) hj1 e1 rfl hz1).1
    have i2:=(searchG f hw hh n (k+1) (2*j+1) l2 (out++mkGs l1) z (by omega) hj2 e2 ez hlen).1
    rw[pt_even] at i1
    rw[show 2*j+1+1=2*(j+1) from by omega,pt_even] at i2
    exact⟨i1,i2⟩
   have split:∀l',(match srchF (chainL p) (freeL p) a w n (k+1) (2*j),srchF (chainL p) (freeL p) a w n (k+1) (2*j+1) with
     |some x,some y=>some (x++y)
     |_,_=>none)=some l'→∃l1 l2,srchF (chainL p) (freeL p) a w n (k+1) (2*j)=some l1∧srchF (chainL p) (freeL p) a w n (k+1) (2*j+1)=some l2∧l'=l1++l2:=by
    intro l' h
    cases hx:srchF (chainL p) (freeL p) a w n (k+1) (2*j) with
    |none=>rw[hx] at h;cases h
    |some x =>
     cases hy:srchF (chainL p) (freeL p) a w n (k+1) (2*j+1) with
     |none=>rw[hx,hy] at h;cases h
     |some y=>rw[hx,hy] at h;injection h with h;exact⟨x,y,rfl,rfl,h.symm⟩
   by_cases h1:chg (chainL p) (ptQ a w k j)-chg (chainL p) (ptQ a w k (j+1))=1
   ·by_cases h2:evalL (freeL p) (ptQ a w k j)=0
    ·rw[if_neg (fun e=>e.2 h2)] at hl
     obtain⟨l1,l2,e1,e2,e3⟩:=split _ hl
     have ez:z=(out++mkGs l1)++mkGs l2:=by rw[hz,e3,mkGs_app,List.append_assoc]
     obtain⟨i1,i2⟩:=recu l1 l2 e1 e2 ez
     refine⟨sturm_searchG.e3 out _ _ _ _ _ _ _ _ (out++mkGs l1) z c1 c2 hI h0 h1 v1 (sg_zero.2 (r1.2 h2)) hmid i1 i2,fun e => ?_⟩
     subst e
     exact sturm_searchN.e3 _ _ _ _ _ _ _ _ ([]++mkGs l1) z c1 c2 hI h0 h1 v1 (sg_zero.2 (r1.2 h2)) hmid i1 i2
    ·rw[if_pos ⟨h1,h2⟩] at hl
     have n1:sg (evalL p (ptQ a w k j))≠0:=val_ne.2 (fun e=>h2 (r1.1 e))
     by_cases h3:evalL (freeL p) (ptQ a w k (j+1))=0
     ·rw[if_pos h3] at hl
      injection hl with hl;subst hl
      have ez:z=out++[mkG (ptQ a w k (j+1)) (ptQ a w k (j+1))]:=hz
      subst ez
      refine⟨sturm_searchG.e1 out _ _ _ _ _ _ _ _ _ c1 c2 hI h0 h1 v1 n1 v2 (sg_zero.2 (r2.2 h3)) hpt (by omega),fun e => ?_⟩
      subst e
      exact sturm_searchN.e1 _ _ _ _ _ _ _ _ _ c1 c2 hI h0 h1 v1 n1 v2 (sg_zero.2 (r2.2 h3)) hpt (by omega)
     ·rw[if_neg h3] at hl
      injection hl with hl;subst hl
      have n2:sg (evalL p (ptQ a w k (j+1)))≠0:=val_ne.2 (fun e=>h3 (r2.1 e))
      have ez:z=out++[mkG (ptQ a w k j) (ptQ a w k (j+1))]:=hz
      subst ez
      refine⟨sturm_searchG.e2 out _ _ _ _ _ _ _ _ _ _ c1 c2 hI h0 h1 v1 n1 v2 n2 z1 z2 (by rw[show (⟨mkR (ptQ a w k j),mkR (ptQ a w k (j+1))⟩:ARange)=mkG (ptQ a w k j) (ptQ a w k (j+1)) from rfl];omega),fun e => ?_⟩
      subst e
      exact sturm_searchN.e2 _ _ _ _ _ _ _ _ _ _ c1 c2 hI h0 h1 v1 n1 v2 n2 z1 z2 (by rw[show (⟨mkR (ptQ a w k j),mkR (ptQ a w k (j+1))⟩:ARange)=mkG (ptQ a w k j) (ptQ a w k (j+1)) from rfl];omega)
   ·rw[if_neg (fun e=>h1 e.1)] at hl
    obtain⟨l1,l2,e1,e2,e3⟩:=split _ hl
    have ez:z=(out++mkGs l1)++mkGs l2:=by rw[hz,e3,mkGs_app,List.append_assoc]
    obtain⟨i1,i2⟩:=recu l1 l2 e1 e2 ez
    refine⟨sturm_searchG.e4 out _ _ _ _ _ _ _ (out++mkGs l1) z c1 c2 hI h0 h1 hmid i1 i2,fun e => ?_⟩
    subst e
    exact sturm_searchN.e4 _ _ _ _ _ _ _ ([]++mkGs l1) z c1 c2 hI h0 h1 hmid i1 i2
theorem iso_ht{h L:Nat}{p:List Rat}(h1:Bd p)(ok:IsoOK h L):ht (-bndP p)+ht (bndP p+bndP p)+isoK h L/32+4≤1073741824:=by
 have a:=bnd_ht h1
 have b:=(bnd_two h1).2
 have c:=ok.2
 rw[ht_neg]
 omega
theorem iso_len{h L:Nat}{p:List Rat}(f:Fine h L p)(h1:Bd p)(ok:IsoOK h L):((isoL h L p).length:Int)=chg (chainL p) (-bndP p)-chg (chainL p) (bndP p):=by
 have:=srch_len _ _ _ _ (iso_some f h1 ok)
 rwa[(pt_zero _ _).1,(pt_zero _ _).2,show -bndP p+(bndP p+bndP p)=bndP p from by grind] at this
theorem iso_len2{h L:Nat}{p:List Rat}(f:Fine h L p)(h1:Bd p)(ok:IsoOK h L):(isoL h L p).length≤1000:=by
 have e:=iso_len f h1 ok
 have hcc:=f.chain_count
 obtain⟨a1,a2⟩:=chg_range (chainL p) (-bndP p)
 obtain⟨b1,b2⟩:=chg_range (chainL p) (bndP p)
 omega
theorem Isolate{h L:Nat}{p:List Rat}(f:Fine h L p)(h1:Bd p)(ok:IsoOK h L):Contract prg 32 [pq p] (.tup [lpv ARange.cells (mkGs (isoL h L p)),.nilI]):=by
 have hb:=bnd_pos p
 have hn:=bnd_ht h1
 have hs:=(searchG f (show 0≤bndP p+bndP p by grind) (iso_ht h1 ok) (isoK h L+1) 0 0 (isoL h L p) [] (mkGs (isoL h L p)) (by omega) (by omega) (iso_some f h1 ok) rfl (by rw[mkGs_len];have:=iso_len2 f h1 ok;omega)).2 rfl
 rw[(pt_zero _ _).1,(pt_zero _ _).2,show -bndP p+(bndP p+bndP p)=bndP p from by grind] at hs
 exact sturm_Isolate.e0 _ _ _ _ _ (Bound f h1) (chain f) (QF.Neg _ (by omega)) hs
end CSt
end Go.Proofs.YtjadajceekjeoaaGreatDoor.Sym
namespace Go.Proofs.YtjadajceekjeoaaGreatDoor.Sym
open Go Path CInt
set_option linter.unusedVariables false
def hfP(n:Nat):Rat:=Rat.divInt 1 ((2^n:Nat):Int)
theorem hfP_zero:hfP 0=1:=by decide +kernel
theorem hfP_tw(n:Nat):hfP n*twP n=1:=tw_inv n
theorem hfP_pos(n:Nat):0<hfP n:=by
 refine Rat.not_le.1 fun hle => ?_
 have h1:=hfP_tw n
 have h2:=Rat.mul_nonneg (show 0 ≤ -hfP n by grind) (Rat.le_of_lt (twP_pos n))
 grind
theorem hfP_succ(n:Nat):hfP n*Rat.divInt 1 2=hfP (n+1):=by
 have h1:=hfP_tw n
 have h2:=hfP_tw (n+1)
 have e:Rat.divInt 1 2+Rat.divInt 1 2=1:=by decide +kernel
 rw[twP_succ] at h2
 have h3:=hfP_pos n
 have h4:=hfP_pos (n+1)
 have h5:hfP (n+1)*(twP n+twP n)*hfP n=hfP n:=by rw[h2];grind
 have h6:hfP (n+1)*(hfP n*twP n+hfP n*twP n)=hfP n:=by grind
 rw[h1] at h6
 have h7:hfP n=hfP (n+1)+hfP (n+1):=by grind
 rw[h7]
 generalize hfP (n+1)=x
 generalize Rat.divInt 1 2=y at e
 have:(x+x)*y=x*(y+y):=by grind
 rw[this,e];grind
theorem hfP_ht{n:Nat}(h:n≤1000):ht (hfP n)≤40:=by
 have h1:=ht_divInt (1:Int) ((2^n:Nat):Int)
 have h2:=wl_two n (Nat.le_refl (2^n))
 have h3:wl (1:Int)≤1:=by decide
 unfold hfP
 omega
theorem srch_ht{G:List (List Rat)}{f:List Rat}{a w:Rat}{K:Nat} : ∀(n k j:Nat) (l:List (Rat×Rat)),n+k=K+1→j<2^k→srchF G f a w n k j=some l→∀r∈l,ht r.1≤ht a+ht w+K/32+4∧ht r.2≤ht a+ht w+K/32+4
 |0,_,_,_,_,_,h=>by cases h
 |n+1,k,j,l,hn,hj,h=>by
  have p1:=pt_ht2 a w (k:=k) (j:=j) (by omega)
  have p2:=pt_ht2 a w (k:=k) (j:=j+1) (by omega)
  have hkK:k/32≤K/32:=Nat.div_le_div_right (by omega)
  rw[srchF] at h
  split at h
  ·injection h with h;subst h;intro r hr;cases hr
  ·split at h
   ·split at h
    ·injection h with h;subst h;intro r hr;rw[List.mem_singleton] at hr;subst hr;exact⟨by simp only;omega,by simp only;omega⟩
    ·injection h with h;subst h;intro r hr;rw[List.mem_singleton] at hr;subst hr;exact⟨by simp only;omega,by simp only;omega⟩
   ·cases hx:srchF G f a w n (k+1) (2*j) with
    |none=>rw[hx] at h;cases h
    |some x =>
     cases hy:srchF G f a w n (k+1) (2*j+1) with
     |none=>rw[hx,hy] at h;cases h
     |some y =>
      rw[hx,hy] at h
      injection h with h;subst h
      have hp:2^(k+1)=2*2^k:=by rw[Nat.pow_succ];omega
      intro r hr
      rcases List.mem_append.1 hr with hr|hr
      ·exact srch_ht n (k+1) (2*j) x (by omega) (by omega) hx r hr
      ·exact srch_ht n (k+1) (2*j+1) y (by omega) (by omega) hy r hr
theorem iso_hts{h L:Nat}{p:List Rat}(f:Fine h L p)(h1:Bd p)(ok:IsoOK h L):∀r∈isoL h L p,ht r.1≤1073741824∧ht r.2≤1073741824:=by
 intro r hr
 have a:=srch_ht (K:=isoK h L) _ 0 0 _ (by omega) (by omega) (iso_some f h1 ok) r hr
 have b:=CSt.iso_ht h1 ok
 omega
def G2(r:Rat×Rat):ARange:=mkG r.1 r.2
def refR(p:List Rat)(lo hi:Rat)(bits e:Nat):Rat×Rat:=refQ (freeL p) (sg (evalL (freeL p) lo)) lo (hi-lo) (hfP bits) (bits+e) 0 0
structure RefOK (lo hi:Rat) (bits e:Nat):Prop where
 le:lo≤hi
 w:hi-lo≤twP e
 h1:ht lo≤1073741824
 h2:ht hi≤1073741824
 hh:ht lo+ht (hi-lo)+(bits+e)/32+4≤1073741824
 hb:bits≤256
theorem ref_fin{w:Rat}{b e:Nat}(hw:w≤twP e):w*Rat.divInt 1 ((2^(b+e):Nat):Int)≤hfP b:=by
 have h1:=hfP_tw (b+e)
 have h2:=hfP_tw b
 have p1:=hfP_pos (b+e)
 show w*hfP (b+e)≤hfP b
 have h3:=Rat.mul_le_mul_of_nonneg_right hw (Rat.le_of_lt p1)
 rw[twP_add] at h1
 have p2:=hfP_pos b
 have e1:twP e*hfP (b+e)=hfP b:=by
  have:hfP b*(hfP (b+e)*(twP b*twP e))=(hfP b*twP b)*(twP e*hfP (b+e)):=by grind
  rw[h1,h2] at this;grind
 rw[e1] at h3
 exact h3
namespace CSt
theorem ref_loop{f:List Rat}(z:lastZ f=false)(fl:Fl 1073741824 f)(ln:f.length≤10){a w wd:Rat}{K:Nat}(low:Int)(hw:0≤w)(hh:ht a+ht w+K/32+4≤1073741824)(hwd:ht wd≤1000)(hK:w*Rat.divInt 1 ((2^K:Nat):Int)≤wd) :
  ∀(n k j:Nat),n+k=K→j<2^k→sturm_Refine.Loop2 (f.map mkR) low (mkG (ptQ a w k j) (ptQ a w k (j+1))) (mkR wd) (.tup [(G2 (refQ f low a w wd n k j)).pv,.nilI]):=by
 have stop:∀k j,k≤K→j<2^k→w*Rat.divInt 1 ((2^k:Nat):Int)≤wd→sturm_Refine.Loop2 (f.map mkR) low (mkG (ptQ a w k j) (ptQ a w k (j+1))) (mkR wd) (.tup [(mkG (ptQ a w k j) (ptQ a w k (j+1))).pv,.nilI]):=by
  intro k j hk hj hle
  have p1:=pt_ht2 a w (k:=k) (j:=j) (by omega)
  have p2:=pt_ht2 a w (k:=k) (j:=j+1) (by omega)
  have hkK:k/32≤K/32:=Nat.div_le_div_right hk
  have hl:=pt_le a hw k j
  have hwi:=Width (ptQ a w k j) (ptQ a w k (j+1)) (by omega) (by omega) hl
  have h3:=ht_sub (ptQ a w k (j+1)) (ptQ a w k j)
  have hc:=QF.Cmp (ptQ a w k (j+1)-ptQ a w k j) wd (by omega) (by omega)
  exact sturm_Refine.l23 _ _ _ _ _ _ hwi hc (cmpR_le.2 (by rw[pt_width];exact hle))
 intro n
 induction n with
 |zero =>
  intro k j hn hj
  have:k=K:=by omega
  subst this
  rw[refQ]
  exact stop k j (Nat.le_refl _) hj hK
 |succ n ih =>
  intro k j hn hj
  rw[refQ]
  by_cases hle:w*Rat.divInt 1 ((2^k:Nat):Int)≤wd
  ·rw[if_pos hle]
   exact stop k j (by omega) hj hle
  ·rw[if_neg hle]
   have p1:=pt_ht2 a w (k:=k) (j:=j) (by omega)
   have p2:=pt_ht2 a w (k:=k) (j:=j+1) (by omega)
   have hj2:2*j+1<2^(k+1):=by rw[Nat.pow_succ];omega
   have p3:=pt_ht2 a w (k:=k+1) (j:=2*j+1) (by omega)
   have hkK:k/32≤K/32:=Nat.div_le_div_right (by omega)
   have hkK2:(k+1)/32≤K/32:=Nat.div_le_div_right (by omega)
   have hl:=pt_le a hw k j
   have hwi:=Width (ptQ a w k j) (ptQ a w k (j+1)) (by omega) (by omega) hl
   have h3:=ht_sub (ptQ a w k (j+1)) (ptQ a w k j)
   have hc:=QF.Cmp (ptQ a w k (j+1)-ptQ a w k j) wd (by omega) (by omega)
   have hgt:0<cmpR (ptQ a w k (j+1)-ptQ a w k j) wd:=by
    refine Int.lt_of_not_ge fun hh=>hle ?_
    have:=cmpR_le.1 hh
    rwa[pt_width] at this
   have hm:=Mid (ptQ a w k j) (ptQ a w k (j+1)) (by omega) (by omega) hl
   rw[pt_odd] at hm
   have hv:=value f (ptQ a w (k+1) (2*j+1)) z fl ln (by omega)
   by_cases h0:evalL f (ptQ a w (k+1) (2*j+1))=0
   ·rw[if_pos h0]
    exact sturm_Refine.l20 _ _ _ _ _ _ _ _ _ hwi hc hgt hm hv (sg_zero.2 h0) (CIv.Point _ (by omega))
   ·rw[if_neg h0]
    have n0:=val_ne.2 h0
    by_cases hs:cmpR (evalL f (ptQ a w (k+1) (2*j+1))) 0=low
    ·rw[if_pos hs]
     have:=ih (k+1) (2*j+1) (by omega) hj2
     rw[show 2*j+1+1=2*(j+1) from by omega,pt_even] at this
     exact sturm_Refine.l21 _ _ _ _ _ _ _ _ hwi hc hgt hm hv n0 hs this
    ·rw[if_neg hs]
     have:=ih (k+1) (2*j) (by omega) (by omega)
     rw[pt_even] at this
     exact sturm_Refine.l22 _ _ _ _ _ _ _ _ hwi hc hgt hm hv n0 hs this
theorem Refine{h L:Nat}{p:List Rat}(f:Fine h L p){lo hi:Rat}{bits e:Nat}(ok:RefOK lo hi bits e)(hi':isoQ p lo hi=true):Contract prg 21 [pq p,(mkG lo hi).pv,vI (bits:Int)] (.tup [(G2 (refR p lo hi bits e)).pv,.nilI]):=by
 obtain⟨f1,f2,_⟩:=free_spec f.zp f.ne
 have hle:=ok.le
 have h1:=ok.h1
 have h2:=ok.h2
 have hb:=ok.hb
 have hiso:=isolating f (mkG lo hi) (fit_mkG h1 h2)
 have hB:isoB p (mkG lo hi)=true:=by unfold isoB;rw[ok_mkG hle,loG_mk hle,hiG_mk hle,hi'];rfl
 have hone:=CFr.Of 1 (by unfold InI64;omega)
 have e1:((1:Int):Rat)=hfP 0:=by rw[hfP_zero];rfl
 rw[e1] at hone
 have hmk:=QF.Make 1 2 (by unfold InI64;omega) (by unfold InI64;omega) (by omega)
 have hhf:ht (Rat.divInt 1 2)≤1:=by decide
 have fin:sturm_Refine.Loop2 ((freeL p).map mkR) (sg (evalL (freeL p) lo)) (mkG lo hi) (mkR (hfP bits)) (.tup [(G2 (refR p lo hi bits e)).pv,.nilI]):=by
  have:=ref_loop f1 f.free_fl f.free_len10 (sg (evalL (freeL p) lo)) (show 0≤hi-lo by grind) ok.hh (Nat.le_trans (hfP_ht (show bits≤1000 by omega)) (by omega)) (ref_fin ok.w) (bits+e) 0 0 (by omega) (by omega)
  rw[(pt_zero _ _).1,(pt_zero _ _).2,show lo+(hi-lo)=hi from by grind] at this
  exact this
 have hull:=CIv.Hull (mkG lo hi) (mkG lo hi) (fit_mkG (by omega) (by omega)) (fit_mkG (by omega) (by omega))
 rw[loG_mk hle,hiG_mk hle,minR_self,maxR_self] at hull
 have hval:=value (freeL p) lo f1 f.free_fl f.free_len10 h1
 have loop:∀d t:Nat,t+d=bits→sturm_Refine.Loop1 ((freeL p).map mkR) (bits:Int) t (mkG lo hi) (mkR (hfP t)) (mkR (Rat.divInt 1 2)) (.tup [(G2 (refR p lo hi bits e)).pv,.nilI]):=by
  intro d
  induction d with
  |zero =>
   intro t ht
   have:t=bits:=by omega
   subst this
   exact sturm_Refine.l11 _ _ _ _ _ _ _ _ (by omega) hull hval fin
  |succ d ih =>
   intro t ht'
   have hm:=QF.Mul (hfP t) (Rat.divInt 1 2) (by have:=hfP_ht (show t≤1000 by omega);omega) (by omega)
   rw[hfP_succ] at hm
   exact sturm_Refine.l10 _ _ _ _ _ _ _ (by omega) hm (by omega) (ih (t+1) (by omega))
 rw[hB] at hiso
 exact sturm_Refine.e3 _ _ _ _ _ _ _ none (good f) (by omega) (by omega) hiso rfl (CPl.Free f) hone hmk (loop bits 0 (by omega))
end CSt
end Go.Proofs.YtjadajceekjeoaaGreatDoor.Sym
namespace Go.Proofs.YtjadajceekjeoaaGreatDoor.Sym.Lay
open Go Go.Shelf Go.Proofs
set_option maxRecDepth 20000
def ren:Ren:=⟨fun n=>match n with|129=>198|156=>168|165=>179|166=>180|169=>182|171=>166|240=>189|241=>190|243=>176|246=>185|276=>195|277=>196|283=>191|284=>192|285=>193|286=>194|317=>197|318=>199|319=>200|320=>201|337=>202|338=>203|n=>n,
 fun n=>match n with|0=>0|2=>2|3=>3|4=>4|5=>5|9=>9|20=>20|31=>160|37=>173|46=>148|51=>83|53=>147|70=>172|72=>175|75=>31|76=>32|80=>179|127=>186|164=>192|171=>187|173=>190|212=>197|213=>198|232=>201|233=>202|n=>n,
 fun n=>match n with|17=>0|18=>2|19=>3|n=>n⟩
theorem lays156:Lays.n156 Tryz.prog ren where
 mixed:=by kernel_rfl
 f156:=Tryz.func168.trans (congrArg some (by kernel_rfl))
 f165:=Tryz.func179.trans (congrArg some (by kernel_rfl))
 f166:=Tryz.func180.trans (congrArg some (by kernel_rfl))
 f169:=Tryz.func182.trans (congrArg some (by kernel_rfl))
 f240:=Tryz.func189.trans (congrArg some (by kernel_rfl))
 f241:=Tryz.func190.trans (congrArg some (by kernel_rfl))
 f276:=Tryz.func195.trans (congrArg some (by kernel_rfl))
 f277:=Tryz.func196.trans (congrArg some (by kernel_rfl))
 t0:=Tryz.underlying0
 a0:=Tryz.isAgg0
 z0:=Tryz.sizeOf0
 v0:=Tryz.zeroValue0
 t3:=Tryz.underlying3
 a3:=Tryz.isAgg3
 z3:=Tryz.sizeOf3
 v3:=Tryz.zeroValue3
 t4:=Tryz.underlying4
 a4:=Tryz.isAgg4
 z4:=Tryz.sizeOf4
 v4:=Tryz.zeroValue4
 t9:=Tryz.underlying9
 a9:=Tryz.isAgg9
 z9:=Tryz.sizeOf9
 v9:=Tryz.zeroValue9
 t20:=Tryz.underlying20
 a20:=Tryz.isAgg20
 z20:=Tryz.sizeOf20
 v20:=Tryz.zeroValue20
 t31:=Tryz.underlying160
 a31:=Tryz.isAgg160
 z31:=Tryz.sizeOf160
 v31:=Tryz.zeroValue160
 t37:=Tryz.underlying173
 a37:=Tryz.isAgg173
 z37:=Tryz.sizeOf173
 v37:=Tryz.zeroValue173
 t70:=Tryz.underlying172
 a70:=Tryz.isAgg172
 z70:=Tryz.sizeOf172
 v70:=Tryz.zeroValue172
 t72:=Tryz.underlying175
 a72:=Tryz.isAgg175
 z72:=Tryz.sizeOf175
 v72:=Tryz.zeroValue175
 t75:=Tryz.underlying31
 a75:=Tryz.isAgg31
 z75:=Tryz.sizeOf31
 v75:=Tryz.zeroValue31
 t76:=Tryz.underlying32
 a76:=Tryz.isAgg32
 z76:=Tryz.sizeOf32
 v76:=Tryz.zeroValue32
 t127:=Tryz.underlying186
 a127:=Tryz.isAgg186
 z127:=Tryz.sizeOf186
 v127:=Tryz.zeroValue186
 t164:=Tryz.underlying192
 a164:=Tryz.isAgg192
 z164:=Tryz.sizeOf192
 v164:=Tryz.zeroValue192
theorem lays171:Lays.n171 Tryz.prog ren where
 mixed:=by kernel_rfl
 f129:=Tryz.func198.trans (congrArg some (by kernel_rfl))
 f171:=Tryz.func166.trans (congrArg some (by kernel_rfl))
 f243:=Tryz.func176.trans (congrArg some (by kernel_rfl))
 f246:=Tryz.func185.trans (congrArg some (by kernel_rfl))
 f283:=Tryz.func191.trans (congrArg some (by kernel_rfl))
 f284:=Tryz.func192.trans (congrArg some (by kernel_rfl))
 f285:=Tryz.func193.trans (congrArg some (by kernel_rfl))
 f286:=Tryz.func194.trans (congrArg some (by kernel_rfl))
 f317:=Tryz.func197.trans (congrArg some (by kernel_rfl))
 f318:=Tryz.func199.trans (congrArg some (by kernel_rfl))
 f319:=Tryz.func200.trans (congrArg some (by kernel_rfl))
 f320:=Tryz.func201.trans (congrArg some (by kernel_rfl))
 f337:=Tryz.func202.trans (congrArg some (by kernel_rfl))
 f338:=Tryz.func203.trans (congrArg some (by kernel_rfl))
 t0:=Tryz.underlying0
 a0:=Tryz.isAgg0
 z0:=Tryz.sizeOf0
 v0:=Tryz.zeroValue0
 t2:=Tryz.underlying2
 a2:=Tryz.isAgg2
 z2:=Tryz.sizeOf2
 v2:=Tryz.zeroValue2
 t3:=Tryz.underlying3
 a3:=Tryz.isAgg3
 z3:=Tryz.sizeOf3
 v3:=Tryz.zeroValue3
 t4:=Tryz.underlying4
 a4:=Tryz.isAgg4
 z4:=Tryz.sizeOf4
 v4:=Tryz.zeroValue4
 t5:=Tryz.underlying5
 a5:=Tryz.isAgg5
 z5:=Tryz.sizeOf5
 v5:=Tryz.zeroValue5
 t9:=Tryz.underlying9
 a9:=Tryz.isAgg9
 z9:=Tryz.sizeOf9
 v9:=Tryz.zeroValue9
 t20:=Tryz.underlying20
 a20:=Tryz.isAgg20
 z20:=Tryz.sizeOf20
 v20:=Tryz.zeroValue20
 t37:=Tryz.underlying173
 a37:=Tryz.isAgg173
 z37:=Tryz.sizeOf173
 v37:=Tryz.zeroValue173
 t46:=Tryz.underlying148
 a46:=Tryz.isAgg148
 z46:=Tryz.sizeOf148
 v46:=Tryz.zeroValue148
 t51:=Tryz.underlying83
 a51:=Tryz.isAgg83
 z51:=Tryz.sizeOf83
 v51:=Tryz.zeroValue83
 t53:=Tryz.underlying147
 a53:=Tryz.isAgg147
 z53:=Tryz.sizeOf147
 v53:=Tryz.zeroValue147
 t171:=Tryz.underlying187
 a171:=Tryz.isAgg187
 z171:=Tryz.sizeOf187
 v171:=Tryz.zeroValue187
 t173:=Tryz.underlying190
 a173:=Tryz.isAgg190
 z173:=Tryz.sizeOf190
 v173:=Tryz.zeroValue190
 t212:=Tryz.underlying197
 a212:=Tryz.isAgg197
 z212:=Tryz.sizeOf197
 v212:=Tryz.zeroValue197
 t213:=Tryz.underlying198
 a213:=Tryz.isAgg198
 z213:=Tryz.sizeOf198
 t232:=Tryz.underlying201
 a232:=Tryz.isAgg201
 z232:=Tryz.sizeOf201
 v232:=Tryz.zeroValue201
 t233:=Tryz.underlying202
 a233:=Tryz.isAgg202
 z233:=Tryz.sizeOf202
 v233:=Tryz.zeroValue202
 g17:=by kernel_rfl
 g18:=by kernel_rfl
 g19:=by kernel_rfl
theorem extra:Builder.Extra Tryz.prog ren where
 sizeBuilder:=by kernel_rfl
 liesBuilder:=by kernel_rfl
 t5:=Tryz.underlying5
 a5:=Tryz.isAgg5
 z5:=Tryz.sizeOf5
 v5:=Tryz.zeroValue5
 infoByte:=by kernel_rfl
 cellsByte:=by kernel_rfl
 sizeByte:=by kernel_rfl
 neB5:=by decide
end Go.Proofs.YtjadajceekjeoaaGreatDoor.Sym.Lay
namespace Go.Proofs.YtjadajceekjeoaaGreatDoor.Sym
open Go Go.RowKit
set_option linter.unusedVariables false
theorem Callable.mk' {P : Program} {f : FuncId} {fn : Func} (h : P.funcs[f]? = some fn) (hb : (fn.body.isSome && !(fn.name == "runtime.NumGoroutine")) = true) : Callable P f := by
  rw [Bool.and_eq_true, Bool.not_eq_true'] at hb
  exact ⟨fn, h, hb.1, hb.2⟩
theorem Contract.ofCalls{P:Program}{f:FuncId}{args:List PV}{r:PV}(hc:Callable P f)
  (h:∀(I:Nat→Prop) (w:World) (vs:Array Value),(∀b,I b→b<w.heap.size)→args.length=vs.size →
   (∀(j:Nat) p v,args[j]? = some p→vs[j]? = some v→Rd I w p v) →
   Calls P f vs w (fun e w'=>∃v,e = .returned v∧Rd (fun b=>I b∨fresh w w' b) w' r v∧Below w.heap.size w w')):Contract P f args r:=by
 refine⟨hc,fun I w β vs hI _ hl hr=>(h I w vs hI (by simpa using hl) (fun j p v hp hv=>hr j (.pv p) v (by rw[List.getElem?_map,hp];rfl) hv)).mono ?_⟩
 rintro e w' ⟨v,he,hv,hb⟩
 refine⟨v,β,he,fun _ _ _=>rfl,Keeps.of_below ⟨hb,fun s=>by unfold Str at s;exact s.elim⟩,⟨(fun r sc h=>by cases h),(fun r r' b h=>by unfold dom at h;cases h)⟩,?_,(fun x b h=>by unfold dom at h;cases h)⟩
 exact Rd.mono hv (fun b hb=>hb.imp id (fun hf=>⟨Or.inl hf,(fun x hx=>by unfold dom at hx;cases hx)⟩)) (fun _ _ _=>rfl)
theorem rdv_int{I:Nat→Prop}{w:World}{k:IntKind}{n:Int}{v:Value}(h:Rd I w (.int k n) v):v = .int k n:=by cases h;rfl
theorem rdv_str{I:Nat→Prop}{w:World}{s:ByteArray}{v:Value}(h:Rd I w (.str s) v):v = .string s:=by cases h;rfl
def dig(n:Nat):ByteArray:=⟨(Lib.decDigits n).toArray⟩
theorem Itoa_small(n:Nat)(h:n<100):Contract prg 166 [vI (n:Int)] (.str (dig n)):=by
 refine Contract.ofCalls (Callable.mk' Tryz.func166 (by kernel_rfl)) (fun I w vs hI hl hr => ?_)
 obtain⟨v,rfl⟩:∃v,vs = #[v]:=by
  match vs,hl with
  |⟨[v]⟩,_=>exact⟨v,rfl⟩
 have hv:=rdv_int (hr 0 _ v rfl rfl)
 subst hv
 refine Calls.mono (Any.strconv_Itoa_small Lay.lays171 n h w) ?_
 rintro e w' ⟨he,rfl⟩
 exact⟨_,he,.str _,Below.refl _ _⟩
def joinB(l:List ByteArray)(sep:ByteArray):ByteArray:=⟨(Lib.join (l.map (·.data.toList)) sep.data.toList).toArray⟩
theorem Join(l:List ByteArray)(sep:ByteArray)(hn:l.length≤140737488355328)(hlen:(Lib.join (l.map (·.data.toList)) sep.data.toList).length≤140737488355328) :
  Contract prg 168 [lpv strCell l,.str sep] (.str (joinB l sep)):=by
 refine Contract.ofCalls (Callable.mk' Tryz.func168 (by kernel_rfl)) (fun I w vs hI hl hr => ?_)
 obtain⟨v,u,rfl⟩:∃v u,vs = #[v,u]:=by
  match vs,hl with
  |⟨[v,u]⟩,_=>exact⟨v,u,rfl⟩
 have hu:=rdv_str (hr 1 _ u rfl rfl)
 subst hu
 have hv:Rd I w (.list (l.map strCell)) v:=hr 0 _ v rfl rfl
 cases l with
 |nil =>
  have:∃a c,v = .slice a 0 c:=by
   generalize hx:(PV.list (([]:List ByteArray).map strCell))=x at hv
   cases hv with
   |nil a c=>exact⟨a,c,rfl⟩
   |list xs b o c s f hc hb hs ho h =>
    injection hx with hx
    subst hx
    exact⟨_,c,rfl⟩
   |_=>cases hx
  obtain⟨a,c,rfl⟩:=this
  refine Calls.mono (Any.strings_Join_none Lay.lays156 Lay.extra a c sep w) ?_
  rintro e w' ⟨he,rfl⟩
  exact⟨_,he,.str _,Below.refl _ _⟩
 |cons x0 r =>
  have:∃b o c,v = .slice (some ⟨b,o,none⟩) (x0::r).length c∧(x0::r).length≤c∧I b∧∀(j:Nat) x,(x0::r)[j]? = some x→w.cell? ⟨b,o+j,none⟩=some (.string x):=by
   generalize hx:(PV.list ((x0::r).map strCell))=x at hv
   cases hv with
   |list xs b o c s f hc hb hs ho h =>
    injection hx with hx
    subst hx
    have hs1:s=1:=by
     have:=hs 0 _ rfl
     simpa[strCell] using this.symm
    subst hs1
    refine⟨b,o,c,by rw[List.length_map],by simpa using hc,hb,fun j x hj => ?_⟩
    have hrow:((x0::r).map strCell)[j]? = some (strCell x):=by rw[List.getElem?_map,hj];rfl
    have h1:=(ho j 0 _ (.str x) hrow rfl).2
    have h2:=rdv_str (h j 0 _ (.str x) hrow rfl)
    rw[h2] at h1
    simpa using h1
   |_=>cases hx
  obtain⟨b,o,c,rfl,hc,hb,hcell⟩:=this
  refine Calls.mono (Any.strings_Join Lay.lays156 Lay.extra b o c (x0::r) sep w hcell (hI b hb) hn hc hlen) ?_
  rintro e w' ⟨he,hw⟩
  exact⟨_,he,.str _,hw⟩
end Go.Proofs.YtjadajceekjeoaaGreatDoor.Sym
namespace Go.Proofs.YtjadajceekjeoaaGreatDoor.Sym
open Go Path CInt
set_option linter.unusedVariables false
def numT(n:Int):ByteArray:=if n<0 then ByteArray.mk #[45]++dig n.natAbs else dig n.natAbs
def ratT(q:Rat):ByteArray:=if (q.den:Int)=1 then numT q.num else numT q.num++ByteArray.mk #[47]++numT (q.den:Int)
theorem dig_small{n:Nat}(h:n<10):dig n=ByteArray.mk #[UInt8.ofNat (48+n)]:=by
 unfold dig
 rw[Lib.decDigits,dif_pos h]
theorem dig_size{n:Nat}(h:n<1000000000):(dig n).size≤10:=by
 have key:∀(k n:Nat),n<10^(k+1)→(Lib.decDigits n).length≤k+1:=by
  intro k
  induction k with
  |zero =>
   intro n h
   rw[Lib.decDigits,dif_pos (by omega)]
   exact Nat.le_refl _
  |succ k ih =>
   intro n h
   by_cases h9:n<10
   ·rw[Lib.decDigits,dif_pos h9];simp
   ·rw[Lib.decDigits,dif_neg h9,List.length_append,List.length_singleton]
    have:=ih (n/10) (by rw[Nat.pow_succ] at h;omega)
    omega
 have:=key 8 n (by omega)
 show(Lib.decDigits n).toArray.size≤10
 rw[List.size_toArray]
 omega
theorem join_one(x sep:ByteArray):joinB [x] sep=x:=by
 unfold joinB
 rw[List.map_cons,List.map_nil,Lib.join_one]
theorem numT_size{n:Int}(h:n.natAbs<1000000000):(numT n).size≤11:=by
 have:=dig_size h
 unfold numT
 split
 ·rw[ByteArray.size_append]
  have e:(ByteArray.mk #[45]).size=1:=rfl
  omega
 ·omega
namespace CTx
theorem iText(n:Int)(h:n.natAbs<1000000000)(hI:n≠0→Contract prg 166 [vI (n.natAbs:Int)] (.str (dig n.natAbs))):Contract prg 146 [(whole n).pv] (.str (numT n)):=by
 have hl:(words n.natAbs).length≤1:=len_of_lt (by omega)
 have hfit:Fit (whole n).mag:=by
  show Fit (words n.natAbs)
  unfold Fit
  omega
 have hm:=CInt.mag (whole n) hfit
 have hn:=CInt.neg (whole n) hfit
 rw[whole_val] at hm hn
 by_cases h0:n=0
 ·subst h0
  have e:numT 0=ByteArray.mk #[48]:=by
   unfold numT
   rw[if_neg (by omega),show Int.natAbs 0=0 from rfl,dig_small (by omega)];rfl
  rw[e]
  exact integer_Text.e0 _ _ hm rfl
 ·have hw:(words n.natAbs).length≠0:=fun e=>h0 (by have:=words_len0.1 e;omega)
  have hs:=CInt.short (words n.natAbs) (1000000000:UInt32) (by omega) (by decide)
  rw[nat_words,show(1000000000:UInt32).toNat=1000000000 from rfl,Nat.div_eq_of_lt h,Nat.mod_eq_of_lt h,words_zero] at hs
  have hv:(UInt32.ofNat n.natAbs).toNat=n.natAbs:=by
   rw[w_ofNat]
   exact Nat.mod_eq_of_lt (by omega)
  have hi:Contract prg 166 [vI ((UInt32.ofNat n.natAbs).toNat:Int)] (.str (dig n.natAbs)):=by
   rw[hv];exact hI h0
  have hd:=dig_size h
  have hj:=Join [dig n.natAbs] (ByteArray.mk #[]) (by simp) (by
   rw[List.map_cons,List.map_nil,Lib.join_one,Array.length_toList]
   have:(dig n.natAbs).data.size=(dig n.natAbs).size:=rfl
   omega)
  rw[join_one] at hj
  have hN:integer_Text.Loop1 [] [dig n.natAbs] (whole n) (.str (numT n)):=by
   by_cases hneg:n<0
   ·have:=integer_Text.l12 [] _ _ _ _ (by simp) hj hn (decide_eq_true hneg) (by
     have e:(ByteArray.mk #[45]).size=1:=rfl
     omega)
    unfold numT
    rw[if_pos hneg]
    exact this
   ·have:=integer_Text.l13 [] _ _ _ _ (by simp) hj hn (decide_eq_false hneg)
    unfold numT
    rw[if_neg hneg]
    exact this
  exact integer_Text.e1 _ _ hm hw (integer_Text.l11 _ [] _ _ _ _ (by omega) hs hi (by simp) (by simp) hN)
theorem iText_small(n:Int)(h:n.natAbs<100):Contract prg 146 [(whole n).pv] (.str (numT n)):=iText n (by omega) (fun _=>Itoa_small _ h)
theorem fText(q:Rat)(h1:q.num.natAbs<1000000000)(h2:q.den<1000000000)(hN:Contract prg 146 [(whole q.num).pv] (.str (numT q.num)))(hD:Contract prg 146 [(whole (q.den:Int)).pv] (.str (numT (q.den:Int)))):Contract prg 99 [(mkR q).pv] (.str (ratT q)):=by
 have l1:wl q.num≤1:=len_of_lt (by omega)
 have l2:wl (q.den:Int)≤1:=len_of_lt (by rw[Int.natAbs_natCast];omega)
 have hh:ht q≤1:=Nat.max_le.2 ⟨l1,l2⟩
 have hp:=CFr.Parts (mkR q) (fit_mkR (by omega))
 rw[mkR_val] at hp
 have hc:=CInt.Cmp (whole (q.den:Int)) (whole 1) (show Fit (whole (q.den:Int)).mag from Nat.le_trans l2 (by omega)) (by decide)
 rw[whole_val,whole_val] at hc
 have s1:=numT_size h1
 have s2:=numT_size (n:=(q.den:Int)) (by rw[Int.natAbs_natCast];exact h2)
 by_cases hd:(q.den:Int)=1
 ·have:=fraction_Text.e0 _ _ _ _ _ _ hp CFr.one hc (by rw[hd];rfl) hN
  unfold ratT
  rw[if_pos hd]
  exact this
 ·have e:(ByteArray.mk #[47]).size=1:=rfl
  have hc0:cmpI (q.den:Int) 1≠0:=by
   unfold cmpI
   intro hx
   split at hx
   ·cases hx
   ·omega
  have:=fraction_Text.e1 _ _ _ _ _ _ _ hp CFr.one hc hc0 hN (by omega) hD (by rw[ByteArray.size_append];omega)
  unfold ratT
  rw[if_neg hd]
  exact this
theorem fText_small(q:Rat)(h1:q.num.natAbs<100)(h2:q.den<100):Contract prg 99 [(mkR q).pv] (.str (ratT q)) :=
 fText q (by omega) (by omega) (iText_small _ h1) (iText_small _ (by rw[Int.natAbs_natCast];exact h2))
end CTx
end Go.Proofs.YtjadajceekjeoaaGreatDoor.Sym
namespace Go.Proofs.YtjadajceekjeoaaGreatDoor.Sym.Path
open Go
set_option maxRecDepth 20000
set_option linter.unusedVariables false
namespace linkworklaw06_awake
theorem e3(of:List ARat)(all:Int)(of1:List ARat)(iso:List ARange)(of2:List ARat)(all2:Int)(of3:List ARat)(v ref:ARange)(of4:List ARat)(iso2:List ARange)(v1:ARange)(tex tex1:ByteArray)(v2:ARange)(tex2:ByteArray)(h1:Contract prg 40 [(lpv intCell [(-2),0,1])] (polyPV of))(h2:Contract prg 14 [(polyPV of)] (.tup [(vI all),.nilI]))(h3:Contract prg 40 [(lpv intCell [(-2),0,1])] (polyPV of1))(h4:Contract prg 32 [(polyPV of1)] (.tup [(lpv ARange.cells iso),.nilI]))(h5:Contract prg 40 [(lpv intCell [1,0,1])] (polyPV of2))(h6:Contract prg 14 [(polyPV of2)] (.tup [(vI all2),.nilI]))(h7:all=2)(h8:all2=0)(h9:iso.length=2)(h10:Contract prg 40 [(lpv intCell [(-2),0,1])] (polyPV of3))(h11:iso[1]? = some v)(h12:Contract prg 21 [(polyPV of3),v.pv,(vI 1)] (.tup [ref.pv,.nilI]))(h13:Contract prg 40 [(lpv intCell [0,(-1),0,1])] (polyPV of4))(h14:Contract prg 32 [(polyPV of4)] (.tup [(lpv ARange.cells iso2),.nilI]))(h15:iso[0]? = some v1)(h16:Contract prg 45 [v1.pv] (.str tex))(h17:tex=(ByteArray.mk #[45,52,46,46,48]))(h18:Contract prg 45 [ref.pv] (.str tex1))(h19:tex1=(ByteArray.mk #[49,46,46,51,47,50]))(h20:iso2.length=3)(h21:iso2[0]? = some v2)(h22:Contract prg 45 [v2.pv] (.str tex2)):Contract prg 12 [] (vB (decide (tex2=(ByteArray.mk #[45,49,46,46,45,49])))) :=
 Contract.ofL Tryz.func12 (by kernel_rfl) (L.done mixed tabOk (n:=117) (ns:=[3,1,1,3,1,1,3,1,1,1,1,1,1,1,1,1,1,1,1,1,1,1,1,1,3,1,3,1,3,1,1,1,1,1,1,3,1,1,1,1,1,1,1,1,1,1,1,1,1,1,1,1,3,1,1,1,1,1]) (tr:=[.reg [],.reg [(.slc 0 0 (([(-2),0,1]:List Int).map intCell)),(.pv (polyPV of)),(.pv (.tup [(vI all),.nilI]))],.reg [(.slc 0 0 (([(-2),0,1]:List Int).map intCell)),(.pv (polyPV of1)),(.pv (.tup [(lpv ARange.cells iso),.nilI]))],.reg [(.slc 0 0 (([1,0,1]:List Int).map intCell)),(.pv (polyPV of2)),(.pv (.tup [(vI all2),.nilI]))],.reg [.none,.none,.none,.none,.none,.none,.none,.none,.none,.none,.none,.none,.none,.none,.none,.none,.none,(.dec false),.none,.none,(iI (iso.length:Int)),.none,(.dec false)],.dec false,dr 11 1 [(.slc 0 0 (([(-2),0,1]:List Int).map intCell)),(.pv (polyPV of3)),.none,(.row 1 (ARange.cells v)),.none,(.pv (.tup [ref.pv,.nilI]))],.reg [(.slc 0 0 (([0,(-1),0,1]:List Int).map intCell)),(.pv (polyPV of4)),(.pv (.tup [(lpv ARange.cells iso2),.nilI]))],.reg [.none,.none,.none,.none,.none,.none,.none,.none,(.row 0 (ARange.cells v1)),.none,(.pv (.str tex)),.none,.none,.none,.none,(.pv (.str tex1)),.none,(.dec true),.none,.none,(iI (iso2.length:Int)),.none,(.dec true),.none,.none,(.row 0 (ARange.cells v2)),.none,(.pv (.str tex2)),.none,(.dec true)]]) (cj (o_bs sz_int ([(-2),0,1]:List Int)) (cj h1 (cj h2 (cj (o_bs sz_int ([(-2),0,1]:List Int)) (cj h3 (cj h4 (cj (o_bs sz_int ([1,0,1]:List Int)) (cj h5 (cj h6 (cj (Eq.refl false) (cj (Eq.refl false) (cj (Eq.refl false) (cj (Eq.refl false) (cj (Eq.refl false) (cj (Eq.refl false) (cj (dne_f h7) (cj (dne_f h7) (cj (dne_f h7) (cj (dne_f h8) (cj (dne_f h8) (cj (o_len ARange.cells iso) (cj (dne_f h8) (cj (dne_f h8) (cj (dneN_f h9) (cj (o_bs sz_int ([(-2),0,1]:List Int)) (cj h10 (cj (o_at ARange.cells (Eq.refl (1:Int)) h11) (cj h12 (cj (o_bs sz_int ([0,(-1),0,1]:List Int)) (cj h13 (cj h14 (cj (Eq.refl true) (cj (Eq.refl true) (cj (Eq.refl true) (cj (Eq.refl true) (cj (o_at ARange.cells (Eq.refl (0:Int)) h15) (cj (Eq.refl true) (cj (Eq.refl true) (cj h16 (cj (Eq.refl true) (cj (dseq_t h17) (cj (dseq_t h17) (cj h18 (cj (dseq_t h17) (cj (dseq_t h17) (cj (dseq_t h19) (cj (dseq_t h19) (cj (o_len ARange.cells iso2) (cj (dseq_t h19) (cj (dseq_t h19) (cj (deqN_t h20) (cj (deqN_t h20) (cj (o_at ARange.cells (Eq.refl (0:Int)) h21) (cj (deqN_t h20) (cj (deqN_t h20) (cj h22 (cj (deqN_t h20) (cj (deqN_t h20) True.intro)))))))))))))))))))))))))))))))))))))))))))))))))))))))))) (by kernel_rfl))
end linkworklaw06_awake
namespace linkworklaw06_of
@[reducible] noncomputable def fn:Func:=Tryz.f40
noncomputable def atK1:List Itm:=focus [0,2,0,2,0,0,2,0,0] [.code (bodyOf fn)]
def inv1(site_16:List ARat)(l:List Int)(t_8:Nat):St:=⟨[(3,(.row 16 0 site_16.length 3)),(6,(.pv (lpv intCell l))),(7,(eI (l.length:Int))),(8,(eI (t_8:Int)))],[(16,(.pure ((site_16:List ARat).map ARat.cells).flatten))]⟩
@[reducible] noncomputable def Loop1(site_16:List ARat)(l:List Int)(t_8:Nat)(r:PV):Prop:=L prg fn atK1 (inv1 site_16 l t_8) r
theorem e0 (l : List Int) {r : PV}  (hL : Loop1 [] l 0 r) : Contract prg 40 [(lpv intCell l)] r :=
 Contract.ofL Tryz.func40 (by kernel_rfl) (L.go mixed tabOk (n:=87) (ns:=[1]) (tr:=[.reg [],.reg [.nil],.adopt 3 16 3,.reg [.none,(iI (l.length:Int))],.keep [3,6,7,8]]) (cj (o_len intCell l) True.intro) (by kernel_rfl) hL)
theorem l10(site_16:List ARat)(l:List Int)(t_8:Nat)(v:Int)(of:ARat){r:PV}(h1:t_8<l.length)(h2:l[t_8]? = some v)(h3:Contract prg 56 [(vI v)] of.pv)(h4:((site_16++[of]):List ARat).length*56≤140737488355328)(h5:(t_8+1)<9223372036854775808)(hL:Loop1 (site_16++[of]) l (t_8+1) r):Loop1 site_16 l t_8 r :=
 L.go mixed tabOk (n:=126) (ns:=[1,3,1,6,1]) (tr:=[.auto,.reg [],.dec true,.reg [(.row t_8 (intCell v))],.reg [.none,.none,(.pv of.pv),.none,(.app ((site_16++[of]):List ARat).length (((site_16++[of]):List ARat).map ARat.cells).flatten)],.reg [(iI (((t_8+1):Nat):Int))],.keep [3,6,7,8],.drop [15]]) (cj (dltN_t h1) (cj (o_at intCell (Eq.refl (((t_8:Nat):Int):Int)) h2) (cj h3 (cj (o_appR sz_ARat (site_16:List ARat) ([of]:List ARat) 56 (Eq.refl (site_16:List ARat).length) (Eq.refl ([of]:List ARat).length) h4 rfl) (cj (bs_addN h5) True.intro))))) (by kernel_rfl) hL
theorem l11(site_16:List ARat)(l:List Int)(t_8:Nat)(h1:l.length≤t_8):Loop1 site_16 l t_8 (polyPV site_16) :=
 L.done mixed tabOk (n:=120) (ns:=[1,3]) (tr:=[.auto,.reg [],.dec false,.reg [],.frzT 2 ((site_16:List ARat).map ARat.cells)]) (cj (dltN_f h1) (cj (o_frz sz_ARat (site_16:List ARat) (Eq.refl (site_16:List ARat).length)) True.intro)) (by kernel_rfl)
end linkworklaw06_of
end Go.Proofs.YtjadajceekjeoaaGreatDoor.Sym.Path
