/- Lemmas for the statements of this seat. -/
import Derived.Test.YtneklnlpgfeplaaGreatW26
namespace Go.Proofs.YtneklnlpgfeplaaGreat.Sym
open Go
def bf(n:Int):Prop := -9223372036854775808≤n∧n<9223372036854775808
theorem wrap_i64{n:Int}(h:bf n):IntKind.i64.wrap n=n:=by
 obtain⟨h1,h2⟩:=h;have e:IntKind.i64.wrap n=(if (true&&decide (n%18446744073709551616≥9223372036854775808))=true then n%18446744073709551616-18446744073709551616 else n%18446744073709551616):=rfl;rw[e];by_cases hn:n%18446744073709551616≥9223372036854775808
 ·simp[hn];omega
 ·simp[hn];omega
theorem wrap_u64(n:Int):IntKind.u64.wrap n=n%18446744073709551616:=rfl
theorem wrap_u32(n:Int):IntKind.u32.wrap n=n%4294967296:=rfl
section
variable {a b:Int} {x y z r:Nat}
theorem tn{a b:ByteArray}(h:a≠b):decide (a=b)=false:=aci h
theorem jk(h:bf (a+b)):cu true .add (.int .i64 a) (.int .i64 b)=some (.int .i64 (a+b)):=by show some (PV.int .i64 (IntKind.i64.wrap (a+b)))=_;rw[wrap_i64 h]
theorem b9(h:bf (a-b)):cu true .sub (.int .i64 a) (.int .i64 b)=some (.int .i64 (a-b)):=by show some (PV.int .i64 (IntKind.i64.wrap (a-b)))=_;rw[wrap_i64 h]
theorem KM(h:bf (a*b)):cu true .mul (.int .i64 a) (.int .i64 b)=some (.int .i64 (a*b)):=by show some (PV.int .i64 (IntKind.i64.wrap (a*b)))=_;rw[wrap_i64 h]
theorem bj(h:x+y<9223372036854775808):cu true .add (.int .i64 (x:Int)) (.int .i64 (y:Int))=some (.int .i64 ((x+y:Nat):Int)):=by rw[jk (by unfold bf;omega)];simp
theorem kD(h:y≠0)(h2:x<9223372036854775808):cu true .quo (.int .i64 (x:Int)) (.int .i64 (y:Int))=some (.int .i64 ((x/y:Nat):Int)):=by
 have h1:decide ((y:Int)=0)=false:=by simp[h]
 show(bif decide ((y:Int)=0) then none else some (PV.int .i64 (IntKind.i64.wrap ((x:Int).tdiv (y:Int)))))=_;have h3:(x:Int).tdiv (y:Int)=((x/y:Nat):Int):=by simp
 have h4:x/y≤x:=acJ _ _;rw[h1,h3,wrap_i64 (by generalize x/y=q at *;unfold bf;omega)];rfl
theorem gz{k:IntKind}(hy:y≤64)(h:x*2^y<9223372036854775808):cu true .shl (.int .i64 (x:Int)) (.int k (y:Int))=some (.int .i64 ((x*2^y:Nat):Int)):=by
 have h1:decide ((y:Int)<0)=false:=by simp
 show(bif decide ((y:Int)<0) then none else some (PV.int .i64 (IntKind.i64.wrap ((x:Int)*2^(min y 64)))))=_;have e:(x:Int)*2^y=((x*2^y:Nat):Int):=by simp
 rw[h1,acQ hy,e,wrap_i64 (by generalize x*2^y=q at *;unfold bf;omega)];rfl
theorem fk(h:(x+y)%18446744073709551616=r):cu true .add (.int .u64 (x:Int)) (.int .u64 (y:Int))=some (.int .u64 (r:Int)):=by subst h;show some (PV.int .u64 (((x:Int)+(y:Int))%18446744073709551616))=_;simp
theorem oL(h:(x*y)%18446744073709551616=r):cu true .mul (.int .u64 (x:Int)) (.int .u64 (y:Int))=some (.int .u64 (r:Int)):=by subst h;show some (PV.int .u64 (((x:Int)*(y:Int))%18446744073709551616))=_;simp
theorem eP(h:((x:Int)-(y:Int))%18446744073709551616=(r:Int)):cu true .sub (.int .u64 (x:Int)) (.int .u64 (y:Int))=some (.int .u64 (r:Int)):=by rw[←h];rfl
theorem AK(hy:y≠0)(h:(x/y)%18446744073709551616=r):cu true .quo (.int .u64 (x:Int)) (.int .u64 (y:Int))=some (.int .u64 (r:Int)):=by
 have h1:decide ((y:Int)=0)=false:=by simp[hy]
 show(bif decide ((y:Int)=0) then none else some (PV.int .u64 (((x:Int).tdiv (y:Int))%18446744073709551616)))=_;have h3:(x:Int).tdiv (y:Int)=((x/y:Nat):Int):=by simp
 rw[h1,h3,←h];simp
theorem AL(hy:y≠0)(h:x%y=r):cu true .rem (.int .u64 (x:Int)) (.int .u64 (y:Int))=some (.int .u64 (r:Int)):=by
 have h1:decide ((y:Int)=0)=false:=by simp[hy]
 show(bif decide ((y:Int)=0) then none else some (PV.int .u64 ((x:Int).tmod (y:Int))))=_;have h3:(x:Int).tmod (y:Int)=((x%y:Nat):Int):=by rw[Int.tmod_eq_emod_of_nonneg (by omega)];simp
 rw[h1,h3,←h];simp
theorem mK(h:(x%18446744073709551616) ||| (y%18446744073709551616)=r):cu true .or (.int .u64 (x:Int)) (.int .u64 (y:Int))=some (.int .u64 (r:Int)):=by
 show some (PV.int .u64 (((BitVec.ofInt 64 (x:Int) ||| BitVec.ofInt 64 (y:Int)).toNat:Int)%18446744073709551616))=_;have h2:(BitVec.ofInt 64 (x:Int) ||| BitVec.ofInt 64 (y:Int)).toNat=r:=by rw[←h];simp[BitVec.toNat_or]
 have h3:=(BitVec.ofInt 64 (x:Int) ||| BitVec.ofInt 64 (y:Int)).isLt;rw[h2] at h3 ⊢
 congr 2;omega
theorem iw{k:IntKind}(h:(x*2^(min y 64))%18446744073709551616=r):cu true .shl (.int .u64 (x:Int)) (.int k (y:Int))=some (.int .u64 (r:Int)):=by
 have h1:decide ((y:Int)<0)=false:=by simp
 show(bif decide ((y:Int)<0) then none else some (PV.int .u64 (((x:Int)*2^(min y 64))%18446744073709551616)))=_;rw[h1,←h];simp
theorem dO{k:IntKind}(h:x/2^(min y 64)=r):cu true .shr (.int .u64 (x:Int)) (.int k (y:Int))=some (.int .u64 (r:Int)):=by
 have h1:decide ((y:Int)<0)=false:=by simp
 show(bif decide ((y:Int)<0) then none else some (PV.int .u64 ((x:Int).fdiv (2^(min y 64)))))=_;rw[h1,←h,aeN _ (by exact_mod_cast adz _)];simp
theorem CI(h:(x%4294967296) ||| (y%4294967296)=r):cu true .or (.int .u32 (x:Int)) (.int .u32 (y:Int))=some (.int .u32 (r:Int)):=by
 show some (PV.int .u32 (((BitVec.ofInt 32 (x:Int) ||| BitVec.ofInt 32 (y:Int)).toNat:Int)%4294967296))=_;have h2:(BitVec.ofInt 32 (x:Int) ||| BitVec.ofInt 32 (y:Int)).toNat=r:=by rw[←h];simp[BitVec.toNat_or]
 have h3:=(BitVec.ofInt 32 (x:Int) ||| BitVec.ofInt 32 (y:Int)).isLt;rw[h2] at h3 ⊢
 congr 2;omega
theorem gL(h:(x%4294967296) &&& (y%4294967296)=r):cu true .and (.int .u32 (x:Int)) (.int .u32 (y:Int))=some (.int .u32 (r:Int)):=by
 show some (PV.int .u32 (((BitVec.ofInt 32 (x:Int) &&& BitVec.ofInt 32 (y:Int)).toNat:Int)%4294967296))=_;have h2:(BitVec.ofInt 32 (x:Int) &&& BitVec.ofInt 32 (y:Int)).toNat=r:=by rw[←h];simp[BitVec.toNat_and]
 have h3:=(BitVec.ofInt 32 (x:Int) &&& BitVec.ofInt 32 (y:Int)).isLt;rw[h2] at h3 ⊢
 congr 2;omega
theorem rA{k:IntKind}(h:x/2^(min y 32)=r):cu true .shr (.int .u32 (x:Int)) (.int k (y:Int))=some (.int .u32 (r:Int)):=by
 have h1:decide ((y:Int)<0)=false:=by simp
 show(bif decide ((y:Int)<0) then none else some (PV.int .u32 ((x:Int).fdiv (2^(min y 32)))))=_;rw[h1,←h,aeN _ (by exact_mod_cast adz _)];simp
theorem PQ(h:bf (-a)):Co .neg (.int .i64 a)=some (.int .i64 (-a)):=by show some (PV.int .i64 (IntKind.i64.wrap (0-a)))=_;rw[Int.zero_sub,wrap_i64 h]
theorem AM(h:(0-(x:Int))%18446744073709551616=(r:Int)):Co .neg (.int .u64 (x:Int))=some (.int .u64 (r:Int)):=by rw[←h];rfl
theorem DP(h:a%18446744073709551616=(r:Int)):IntKind.u64.wrap a=(r:Int):=h
theorem Nc(h:x%18446744073709551616=r):IntKind.u64.wrap (x:Int)=(r:Int):=by rw[←h];simp[wrap_u64]
theorem dz(h:x%4294967296=r):IntKind.u32.wrap (x:Int)=(r:Int):=by rw[←h];simp[wrap_u32]
theorem AN(h:x%256=r):IntKind.u8.wrap (x:Int)=(r:Int):=by
 have e:∀n:Int,IntKind.u8.wrap n=n%256:=fun n=>rfl
 rw[e,←h];simp
theorem wI(h:x<9223372036854775808):IntKind.i64.wrap (x:Int)=(x:Int):=wrap_i64 (by unfold bf;omega)
theorem oM(v:UInt32):IntKind.u64.wrap (v.toNat:Int)=(v.toNat:Int):=by have:=v.toNat_lt;rw[wrap_u64];omega
theorem br(h:a<b):decide (a<b)=true:=acf h
theorem ah(h:b≤a):decide (a<b)=false:=aci (adH.2 h)
theorem dV(h:a≤b):decide (a≤b)=true:=acf h
theorem aX(h:b<a):decide (a≤b)=false:=aci (Int.not_le.2 h)
theorem dG(h:a=b):(a==b)=true:=by simp[h]
theorem dc(h:a≠b):(a==b)=false:=by simp[h]
theorem yi(h:a≠b):(a != b)=true:=by simp[h]
theorem pO(h:a=b):(a != b)=false:=by simp[h]
theorem aG(h:x<y):decide ((x:Int)<(y:Int))=true:=acf (Int.ofNat_lt.2 h)
theorem aL(h:y≤x):decide ((x:Int)<(y:Int))=false:=ah (aey.2 h)
theorem cK(h:x≤y):decide ((x:Int)≤(y:Int))=true:=acf (aey.2 h)
theorem b7(h:y<x):decide ((x:Int)≤(y:Int))=false:=aX (Int.ofNat_lt.2 h)
theorem bL(h:x=y):((x:Int)==(y:Int))=true:=by simp[h]
theorem aZ(h:x≠y):((x:Int)==(y:Int))=false:=dc (by omega)
theorem mL(h:x≠y):((x:Int) != (y:Int))=true:=yi (by omega)
theorem bH(h:x=y):((x:Int) != (y:Int))=false:=by simp[h]
theorem bE{p:Bool}(h:p=false):(!p)=true:=by simp[h]
theorem av{p:Bool}(h:p=true):(!p)=false:=by simp[h]
theorem OC{p q:Bool}(h:p=q):(p==q)=true:=by simp[h]
theorem Fe{p q:Bool}(h:p≠q):(p==q)=false:=by simp[h]
theorem Wa:(if (y:Int)>(x:Int) then (y:Int) else (x:Int))=((max x y:Nat):Int):=by split<;>omega
end
section
variable {α:Type} {enc:α→List PV} {xs ys:List α} {k l u n m sz off:Nat} {v d:α}
def Sz(enc:α→List PV)(sz:Nat):Prop:=∀a,(enc a).length=sz
theorem bJ:Sz aE 1:=fun _=>rfl
theorem qk:Sz aj 1:=fun _=>rfl
theorem uf:Sz ak 1:=fun _=>rfl
theorem pF(enc:α→List PV):Sz (dF enc) 1:=fun _=>rfl
theorem SD(h:xs[k]? = some v):(xs.map enc)[k]? = some (enc v):=by simp[h]
theorem nd(hs:Sz enc sz):∀xs:List α,((xs.map enc).flatten).length=xs.length*sz
 |[]=>by simp
 |x::xs=>by simp[nd hs xs,hs x,Nat.add_mul,Nat.add_comm]
theorem oB(hs:Sz enc sz):∀(xs:List α) (k:Nat),((xs.map enc).flatten).drop (k*sz)=((xs.drop k).map enc).flatten
 |[],k=>by simp
 |x::xs,0=>by simp
 |x::xs,k+1=>by rw[List.drop_succ_cons,←oB hs xs k,acI,acM,adI,aeS,←aex,List.drop_left' (hs x)]
theorem ug(hs:Sz enc sz):∀(xs:List α) (k:Nat),((xs.map enc).flatten).take (k*sz)=((xs.take k).map enc).flatten
 |[],k=>by simp
 |x::xs,0=>by simp
 |x::xs,k+1=>by
  have h:(k+1)*sz=(enc x).length+k*sz:=by rw[hs x,adI,aeS]
  rw[List.take_succ_cons,acI,acI,acM,acM,←ug hs xs k,h,List.take_length_add_append]
theorem KN{f:α→PV}(he:∀a,enc a=[f a])(h:xs[k]? = some v):(((xs.map enc).flatten).map EV.pv)[0+k*1]? = some (.pv (f v)):=by
 have hs:Sz enc 1:=fun a=>by rw[he];rfl
 have h1:=oB hs xs k;have hk:k<xs.length:=(abL.1 h).1;have hv:xs[k]=v:=by have:=abJ hk;rw[h] at this;injection this with this;exact this.symm
 have h2:((xs.map enc).flatten)[k*1]? = some (f v):=by
  have:(((xs.map enc).flatten).drop (k*1))[0]? = some (f v):=by rw[h1,acx hk,hv];simp[he]
  rw[acq] at this;simpa using this
 rw[acw,abR,h2];rfl
theorem PR(hs:Sz enc sz)(h:xs[k]? = some v):((((xs.map enc).flatten).map EV.pv).drop (0+k*sz)).take sz=(enc v).map EV.pv:=by
 have hk:k<xs.length:=(abL.1 h).1;have hv:xs[k]=v:=by have:=abJ hk;rw[h] at this;injection this with this;exact this.symm
 rw[acw,←aeH,←adA,oB hs,acx hk,hv,acI,acM,List.take_left' (hs v)]
theorem CJ(hs:Sz enc sz)(h:k<xs.length):dB ((xs.map enc).flatten) (k*sz) (enc v)=((xs.set k v).map enc).flatten:=by unfold dB;have h1:(enc v).length=sz:=hs v;rw[h1,ug hs,show k*sz+sz=(k+1)*sz from(adI k sz).symm,oB hs,List.set_eq_take_append_cons_drop,ac7 h];simp
theorem KO(hs:Sz enc sz)(h:k<xs.length):dB (((xs.map enc).flatten).map EV.pv) (0+k*sz) ((enc v).map EV.pv)=(((xs.set k v).map enc).flatten).map EV.pv:=by rw[←CJ hs h,acw];simp[dB,List.map_drop,List.map_take]
theorem AO(hs:Sz enc sz)(h:k<xs.length):(0+k*sz)+((enc v).map EV.pv).length≤(((xs.map enc).flatten).map EV.pv).length:=by
 rw[acw,abS,abS,hs v,nd hs]
 calc k*sz+sz=(k+1)*sz:=(adI k sz).symm
  _≤xs.length*sz:=ac9 _ h
theorem rB(hs:Sz enc sz):∀row∈xs.map enc,row.length=sz:=by intro row h;obtain⟨a,_,rfl⟩:=aca.1 h;exact hs a
theorem KP:(xs.map enc).flatten++(ys.map enc).flatten=((xs++ys).map enc).flatten:=by simp
theorem GO:xs.length+(ys.map enc).length=(xs++ys).length:=by simp
theorem Ff:xs.length+ys.length=(xs++ys).length:=by simp
theorem PS:((xs.map enc).take u).drop l=((xs.take u).drop l).map enc:=by simp[List.map_drop,List.map_take]
theorem Nd:((xs.map enc).take u).drop 0=(xs.take u).map enc:=by simp[List.map_take]
theorem OD(h:k≤xs.length):k≤(xs.map enc).length:=by simpa using h
theorem SE{b:Int}(h:b=(k:Int))(hk:k≤xs.length):b=(((xs.take k).length:Nat):Int):=by rw[h,ac8];omega
theorem Nf:(xs.take k).length≤xs.length:=by rw[ac8];omega
theorem AP{b:Nat}(h:n*b≤140737488355328)(hb:Nat.ble 1 b=true):n<9223372036854775808:=by have h1:1≤b:=abM hb;have h2:n*1≤n*b:=ac2 n h1;omega
theorem I7{b:Nat}(h:b*n≤140737488355328)(hb:Nat.ble 1 b=true):n<9223372036854775808:=AP (by rw[acu];exact h) hb
theorem PT{z:List PV}(h:z=enc d):(List.replicate m z).flatten=((List.replicate m d).map enc).flatten:=by simp[h]
theorem Ng(h:n=xs.length):n=(xs.map enc).length:=by simpa using h
theorem aH(enc:α→List PV)(xs:List α):((xs.map enc).length:Int)=(xs.length:Int):=by simp
theorem bG(enc:α→List PV){i:Int}(hi:i=(k:Int))(h:xs[k]? = some v):i=(k:Int)∧(xs.map enc)[k]? = some (enc v)∧(enc v).length=(enc v).length:=⟨hi,SD h,rfl⟩
theorem Nh(hs:Sz enc sz)(h:xs[k]? = some v):((xs.map enc).flatten).drop (k*sz)=enc v++((xs.drop (k+1)).map enc).flatten:=by
 have hk:k<xs.length:=(abL.1 h).1;have hv:xs[k]=v:=by have:=abJ hk;rw[h] at this;injection this with this;exact this.symm
 rw[oB hs,acx hk,hv,acI,acM]
theorem gA(hs:Sz enc sz)(X:List α):(X.map enc).flatten=(X.map enc).flatten∧(X.map enc).length=(X.map enc).length∧∀row∈X.map enc,row.length=sz:=⟨rfl,rfl,rB hs⟩
theorem CK(hs:Sz enc sz)(h:xs[k]? = some v):((((xs.map enc).flatten).map EV.pv).drop (0+k*sz)).take sz=(enc v).map EV.pv∧(enc v).length=(enc v).length:=⟨PR hs h,rfl⟩
theorem et{f:α→PV}(he:∀a,enc a=[f a])(h:xs[k]? = some v):(((xs.map enc).flatten).map EV.pv)[0+k*1]? = some (.pv (f v)):=KN he h
theorem uB(enc:α→List PV)(d:α){n:Int}(b m:Nat)(hm:n=(m:Int))(h:b*m≤140737488355328)(hb:Nat.ble 1 b=true) :
  n=(m:Int)∧n=(m:Int)∧b*m≤140737488355328∧m<9223372036854775808∧(List.replicate m (enc d)).flatten=((List.replicate m d).map enc).flatten:=⟨hm,hm,h,I7 h hb,PT rfl⟩
theorem SF(hs:Sz enc sz)(xs:List α){a b:Int}(h1:a=(l:Int))(h2:b=(u:Int))(h3:l≤u)(h4:u≤xs.length) :
  a=(l:Int)∧b=(u:Int)∧l≤u∧u≤(xs.map enc).length∧((xs.map enc).take u).drop l=((xs.take u).drop l).map enc∧∀row∈((xs.take u).drop l).map enc,row.length=sz :=
 ⟨h1,h2,h3,OD h4,PS,rB hs⟩
theorem jH(hs:Sz enc sz)(xs:List α){b:Int}(h2:b=(u:Int))(h4:u≤xs.length) :
  ((0:Nat):Int)=((0:Nat):Int)∧b=(u:Int)∧0≤u∧u≤(xs.map enc).length∧((xs.map enc).take u).drop 0=(xs.take u).map enc∧∀row∈(xs.take u).map enc,row.length=sz :=
 ⟨rfl,h2,adz _,OD h4,Nd,rB hs⟩
theorem uQ(hs:Sz enc sz)(xs:List α){a:Int}(h1:a=(l:Int))(h3:l≤xs.length) :
  a=(l:Int)∧((xs.map enc).length:Int)=(xs.length:Int)∧l≤xs.length∧xs.length≤(xs.map enc).length∧((xs.map enc).take xs.length).drop l=(xs.drop l).map enc∧∀row∈(xs.drop l).map enc,row.length=sz :=
 ⟨h1,by simp,h3,by simp,by rw[List.take_of_length_le (by simp),List.map_drop],rB hs⟩
theorem jw(hs:Sz enc sz)(xs:List α)(v:α)(h:k<xs.length):(0+k*sz)+((enc v).map EV.pv).length≤(((xs.map enc).flatten).map EV.pv).length∧dB (((xs.map enc).flatten).map EV.pv) (0+k*sz) ((enc v).map EV.pv)=(((xs.set k v).map enc).flatten).map EV.pv :=
 ⟨AO hs h,KO hs h⟩
theorem PU(hs:Sz enc sz)(h:xs[k]? = some v)(fo:Nat)(part:List PV)(v':α)(he:dB (enc v) fo part=enc v')(hf:Nat.ble (fo+part.length) sz=true) :
  ((0+k*sz)+fo)+(part.map EV.pv).length≤(((xs.map enc).flatten).map EV.pv).length∧dB (((xs.map enc).flatten).map EV.pv) ((0+k*sz)+fo) (part.map EV.pv)=(((xs.set k v').map enc).flatten).map EV.pv:=by
 have Cl:fo+part.length≤sz:=abM hf;have hk:k<xs.length:=(abL.1 h).1;have hl:(enc v).length=sz:=hs v;have hle:k*sz+sz≤xs.length*sz:=by
  calc k*sz+sz=(k+1)*sz:=(adI k sz).symm
   _≤xs.length*sz:=ac9 _ hk
 refine⟨by rw[abS,abS,nd hs];omega,?_⟩;have e:dB ((xs.map enc).flatten) (k*sz+fo) part=dB ((xs.map enc).flatten) (k*sz) (dB (enc v) fo part):=by
  apply List.ext_getElem?;intro j;have l1:(dB (enc v) fo part).length=sz:=by rw[q6 _ _ _ (by omega),hl]
  rw[fY _ _ _ (by rw[nd hs];omega),fY _ _ _ (by rw[nd hs,l1];omega),l1];by_cases h1:k*sz≤j∧j<k*sz+sz
  ·rw[ac7 h1,fY _ _ _ (by omega)];by_cases h2:fo≤j-k*sz∧j-k*sz<fo+part.length
   ·rw[ac7 (by omega),ac7 h2];congr 1;omega
   ·rw[ac3 (by omega),ac3 h2];have h3:(((xs.map enc).flatten).drop (k*sz))[j-k*sz]? = (enc v)[j-k*sz]? := by rw[Nh hs h,acC,ac7 (by omega)]
    rw[acq] at h3;rw[←h3];congr 1;omega
  ·rw[ac3 (by omega),ac3 h1]
 rw[acw,←Gr,e,he,CJ hs hk]
theorem tp(hs:Sz enc sz)(xs ys:List α)(b:Nat)(hx:xs.length=n)(h:(xs++ys).length*b≤140737488355328)(hb:Nat.ble 1 b=true) :
  ((xs.map enc).flatten).length=n*sz∧(∀row∈ys.map enc,row.length=sz)∧n+(ys.map enc).length=(xs++ys).length∧(xs.map enc).flatten++(ys.map enc).flatten=((xs++ys).map enc).flatten ∧
   (xs++ys).length*b≤140737488355328∧(xs++ys).length<9223372036854775808 :=
 ⟨by rw[nd hs,hx],rB hs,by rw[←hx];exact GO,KP,h,AP h hb⟩
theorem ix(hs:Sz enc sz)(xs ys:List α)(b:Nat)(hx:xs.length=n)(hy:ys.length=m)(h:(xs++ys).length*b≤140737488355328)(hb:Nat.ble 1 b=true) :
  ((xs.map enc).flatten).length=n*sz∧((ys.map enc).flatten).length=m*sz∧n+m=(xs++ys).length∧(xs.map enc).flatten++(ys.map enc).flatten=((xs++ys).map enc).flatten ∧
   (xs++ys).length*b≤140737488355328∧(xs++ys).length<9223372036854775808 :=
 ⟨by rw[nd hs,hx],by rw[nd hs,hy],by rw[←hx,←hy];exact Ff,KP,h,AP h hb⟩
theorem dJ(hs:Sz enc sz)(xs:List α)(h:n=xs.length):n=(xs.map enc).length∧(xs.map enc).flatten=(xs.map enc).flatten∧∀row∈xs.map enc,row.length=sz:=⟨Ng h,rfl,rB hs⟩
theorem AQ(hs:Sz enc sz)(xs:List α)(k:Nat):((xs.map enc).flatten).take (k*sz)=((xs.take k).map enc).flatten:=ug hs xs k
theorem OE(hs:Sz enc sz)(xs ys:List α)(h:min ys.length n=k)(hk:k≤xs.length):(∀row∈ys.map enc,row.length=sz)∧min (ys.map enc).length n=k∧0+k*sz≤((xs.map enc).flatten).length ∧
  dB ((xs.map enc).flatten) 0 (((ys.map enc).flatten).take (k*sz))=((ys.take k++xs.drop k).map enc).flatten:=by
 refine⟨rB hs,by simpa using h,by rw[nd hs,Nat.zero_add];exact ac9 _ hk,?_⟩;have hy:k≤ys.length:=by omega
 rw[ug hs];unfold dB;rw[List.take_zero,ae1,acw,nd hs,ac8,acQ hy,oB hs];simp
theorem AR(x y:Nat):(if (y:Int)>(x:Int) then (y:Int) else (x:Int))=((max x y:Nat):Int):=Wa
theorem oN{f:α→PV}(he:∀a,enc a=[f a])(h:xs[off+k]? = some v):(((xs.map enc).flatten).map EV.pv)[off+k*1]? = some (.pv (f v)):=by have:=KN (xs:=xs) (k:=off+k) he h;rw[adk];rw[acw,adk] at this;exact this
theorem DQ(hs:Sz enc 1)(xs:List α)(v:α)(off k:Nat)(h:off+k<xs.length):(off+k*1)+((enc v).map EV.pv).length≤(((xs.map enc).flatten).map EV.pv).length∧dB (((xs.map enc).flatten).map EV.pv) (off+k*1) ((enc v).map EV.pv)=(((xs.set (off+k) v).map enc).flatten).map EV.pv:=by have h1:=AO (k:=off+k) (v:=v) hs h;have h2:=KO (k:=off+k) (v:=v) hs h;rw[acw,adk] at h1 h2;rw[adk];exact⟨h1,h2⟩
theorem OI(xs:List α){b:Int}(h:b=(k:Int))(hk:k≤xs.length):((0:Nat):Int)=((0:Nat):Int)∧b=(((xs.take k).length:Nat):Int)∧(0=0∨0<(xs.take k).length)∧0≤(xs.take k).length∧(xs.take k).length≤xs.length :=
 ⟨rfl,SE h hk,.inl rfl,adz _,Nf⟩
theorem SG{a b:Int}(h1:a=(l:Int))(h2:b=(u:Int))(h3:l=0∨l<u)(h4:l≤u)(h5:u≤n):a=(l:Int)∧b=(u:Int)∧(l=0∨l<u)∧l≤u∧u≤n:=⟨h1,h2,h3,h4,h5⟩
theorem KQ{x:Int}{op:BinOp}{p r:PV}{kk:IntKind}(h:x=(k:Int))(hb:cu true op p (.int kk (k:Int))=some r):cu true op p (.int kk x)=some r:=by rw[h];exact hb
end
end Go.Proofs.YtneklnlpgfeplaaGreat.Sym
