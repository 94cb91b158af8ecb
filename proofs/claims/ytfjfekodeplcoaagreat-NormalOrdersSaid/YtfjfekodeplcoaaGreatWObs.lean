/- Lemmas for the statements of this seat. -/
import Derived.Test.YtfjfekodeplcoaaGreatWTypes
namespace Go.Proofs.YtfjfekodeplcoaaGreat.Sym
open Go
def aK(n:Int):Prop := -9223372036854775808≤n∧n<9223372036854775808
theorem wrap_i64{n:Int}(h:aK n):IntKind.i64.wrap n=n:=by
 obtain⟨h1,h2⟩:=h
 have e:IntKind.i64.wrap n=(if (true&&decide (n%18446744073709551616≥9223372036854775808))=true then n%18446744073709551616-18446744073709551616 else n%18446744073709551616):=rfl
 rw[e]
 by_cases hn:n%18446744073709551616≥9223372036854775808
 ·simp[hn];omega
 ·simp[hn];omega
theorem wrap_u64(n:Int):IntKind.u64.wrap n=n%18446744073709551616:=rfl
theorem wrap_u32(n:Int):IntKind.u32.wrap n=n%4294967296:=rfl
section
variable {a b:Int} {x y z r:Nat}
theorem aM{a b:ByteArray}(h:a=b):decide (a=b)=true:=decide_eq_true h
theorem bG{a b:ByteArray}(h:a≠b):decide (a=b)=false:=decide_eq_false h
theorem jP(h:aK (a+b)):ez true .add (.int .i64 a) (.int .i64 b)=some (.int .i64 (a+b)):=by
 show some (PV.int .i64 (IntKind.i64.wrap (a+b)))=_
 rw[wrap_i64 h]
theorem bu(h:aK (a-b)):ez true .sub (.int .i64 a) (.int .i64 b)=some (.int .i64 (a-b)):=by
 show some (PV.int .i64 (IntKind.i64.wrap (a-b)))=_
 rw[wrap_i64 h]
theorem Ma(h:aK (a*b)):ez true .mul (.int .i64 a) (.int .i64 b)=some (.int .i64 (a*b)):=by
 show some (PV.int .i64 (IntKind.i64.wrap (a*b)))=_
 rw[wrap_i64 h]
theorem aI(h:x+y<9223372036854775808):ez true .add (.int .i64 (x:Int)) (.int .i64 (y:Int))=some (.int .i64 ((x+y:Nat):Int)):=by
 rw[jP (by unfold aK;omega)];simp
theorem Ff(h:y≠0)(h2:x<9223372036854775808):ez true .quo (.int .i64 (x:Int)) (.int .i64 (y:Int))=some (.int .i64 ((x/y:Nat):Int)):=by
 have h1:decide ((y:Int)=0)=false:=by simp[h]
 show(bif decide ((y:Int)=0) then none else some (PV.int .i64 (IntKind.i64.wrap ((x:Int).tdiv (y:Int)))))=_
 have h3:(x:Int).tdiv (y:Int)=((x/y:Nat):Int):=by simp
 have h4:x/y≤x:=Nat.div_le_self _ _
 rw[h1,h3,wrap_i64 (by generalize x/y=q at *;unfold aK;omega)];rfl
theorem uw(h:y≠0):ez true .rem (.int .i64 (x:Int)) (.int .i64 (y:Int))=some (.int .i64 ((x%y:Nat):Int)):=by
 have h1:decide ((y:Int)=0)=false:=by simp[h]
 show(bif decide ((y:Int)=0) then none else some (PV.int .i64 ((x:Int).tmod (y:Int))))=_
 have h3:(x:Int).tmod (y:Int)=((x%y:Nat):Int):=by rw[Int.tmod_eq_emod_of_nonneg (by omega)];simp
 rw[h1,h3];rfl
theorem sa(h:y≠0):ez true .rem (.int .u8 (x:Int)) (.int .u8 (y:Int))=some (.int .u8 ((x%y:Nat):Int)):=by
 have h1:decide ((y:Int)=0)=false:=by simp[h]
 show(bif decide ((y:Int)=0) then none else some (PV.int .u8 ((x:Int).tmod (y:Int))))=_
 have h3:(x:Int).tmod (y:Int)=((x%y:Nat):Int):=by rw[Int.tmod_eq_emod_of_nonneg (by omega)];simp
 rw[h1,h3];rfl
theorem dm(h:(x+y)%18446744073709551616=r):ez true .add (.int .u64 (x:Int)) (.int .u64 (y:Int))=some (.int .u64 (r:Int)):=by
 subst h;show some (PV.int .u64 (((x:Int)+(y:Int))%18446744073709551616))=_;simp
theorem l5(h:(x*y)%18446744073709551616=r):ez true .mul (.int .u64 (x:Int)) (.int .u64 (y:Int))=some (.int .u64 (r:Int)):=by
 subst h;show some (PV.int .u64 (((x:Int)*(y:Int))%18446744073709551616))=_;simp
theorem da(h:((x:Int)-(y:Int))%18446744073709551616=(r:Int)):ez true .sub (.int .u64 (x:Int)) (.int .u64 (y:Int))=some (.int .u64 (r:Int)):=by
 rw[←h];rfl
theorem yh(hy:y≠0)(h:(x/y)%18446744073709551616=r):ez true .quo (.int .u64 (x:Int)) (.int .u64 (y:Int))=some (.int .u64 (r:Int)):=by
 have h1:decide ((y:Int)=0)=false:=by simp[hy]
 show(bif decide ((y:Int)=0) then none else some (PV.int .u64 (((x:Int).tdiv (y:Int))%18446744073709551616)))=_
 have h3:(x:Int).tdiv (y:Int)=((x/y:Nat):Int):=by simp
 rw[h1,h3,←h];simp
theorem yi(hy:y≠0)(h:x%y=r):ez true .rem (.int .u64 (x:Int)) (.int .u64 (y:Int))=some (.int .u64 (r:Int)):=by
 have h1:decide ((y:Int)=0)=false:=by simp[hy]
 show(bif decide ((y:Int)=0) then none else some (PV.int .u64 ((x:Int).tmod (y:Int))))=_
 have h3:(x:Int).tmod (y:Int)=((x%y:Nat):Int):=by rw[Int.tmod_eq_emod_of_nonneg (by omega)];simp
 rw[h1,h3,←h];simp
theorem l6(h:(x%18446744073709551616) ||| (y%18446744073709551616)=r):ez true .or (.int .u64 (x:Int)) (.int .u64 (y:Int))=some (.int .u64 (r:Int)):=by
 show some (PV.int .u64 (((BitVec.ofInt 64 (x:Int) ||| BitVec.ofInt 64 (y:Int)).toNat:Int)%18446744073709551616))=_
 have h2:(BitVec.ofInt 64 (x:Int) ||| BitVec.ofInt 64 (y:Int)).toNat=r:=by
  rw[←h];simp[BitVec.toNat_or]
 have h3:=(BitVec.ofInt 64 (x:Int) ||| BitVec.ofInt 64 (y:Int)).isLt
 rw[h2] at h3 ⊢
 congr 2;omega
theorem gW{k:IntKind}(h:(x*2^(min y 64))%18446744073709551616=r):ez true .shl (.int .u64 (x:Int)) (.int k (y:Int))=some (.int .u64 (r:Int)):=by
 have h1:decide ((y:Int)<0)=false:=by simp
 show(bif decide ((y:Int)<0) then none else some (PV.int .u64 (((x:Int)*2^(min y 64))%18446744073709551616)))=_
 rw[h1,←h];simp
theorem cG{k:IntKind}(h:x/2^(min y 64)=r):ez true .shr (.int .u64 (x:Int)) (.int k (y:Int))=some (.int .u64 (r:Int)):=by
 have h1:decide ((y:Int)<0)=false:=by simp
 show(bif decide ((y:Int)<0) then none else some (PV.int .u64 ((x:Int).fdiv (2^(min y 64)))))=_
 rw[h1,←h,Int.fdiv_eq_ediv_of_nonneg _ (by exact_mod_cast Nat.zero_le _)];simp
theorem se(h:(x%4294967296) ||| (y%4294967296)=r):ez true .or (.int .u32 (x:Int)) (.int .u32 (y:Int))=some (.int .u32 (r:Int)):=by
 show some (PV.int .u32 (((BitVec.ofInt 32 (x:Int) ||| BitVec.ofInt 32 (y:Int)).toNat:Int)%4294967296))=_
 have h2:(BitVec.ofInt 32 (x:Int) ||| BitVec.ofInt 32 (y:Int)).toNat=r:=by
  rw[←h];simp[BitVec.toNat_or]
 have h3:=(BitVec.ofInt 32 (x:Int) ||| BitVec.ofInt 32 (y:Int)).isLt
 rw[h2] at h3 ⊢
 congr 2;omega
theorem fN(h:(x%4294967296) &&& (y%4294967296)=r):ez true .and (.int .u32 (x:Int)) (.int .u32 (y:Int))=some (.int .u32 (r:Int)):=by
 show some (PV.int .u32 (((BitVec.ofInt 32 (x:Int) &&& BitVec.ofInt 32 (y:Int)).toNat:Int)%4294967296))=_
 have h2:(BitVec.ofInt 32 (x:Int) &&& BitVec.ofInt 32 (y:Int)).toNat=r:=by
  rw[←h];simp[BitVec.toNat_and]
 have h3:=(BitVec.ofInt 32 (x:Int) &&& BitVec.ofInt 32 (y:Int)).isLt
 rw[h2] at h3 ⊢
 congr 2;omega
theorem yj{k:IntKind}(h:(x*2^(min y 32))%4294967296=r):ez true .shl (.int .u32 (x:Int)) (.int k (y:Int))=some (.int .u32 (r:Int)):=by
 have h1:decide ((y:Int)<0)=false:=by simp
 show(bif decide ((y:Int)<0) then none else some (PV.int .u32 (((x:Int)*2^(min y 32))%4294967296)))=_
 rw[h1,←h];simp
theorem kg{k:IntKind}(h:x/2^(min y 32)=r):ez true .shr (.int .u32 (x:Int)) (.int k (y:Int))=some (.int .u32 (r:Int)):=by
 have h1:decide ((y:Int)<0)=false:=by simp
 show(bif decide ((y:Int)<0) then none else some (PV.int .u32 ((x:Int).fdiv (2^(min y 32)))))=_
 rw[h1,←h,Int.fdiv_eq_ediv_of_nonneg _ (by exact_mod_cast Nat.zero_le _)];simp
theorem Mb(h:aK (-a)):zW .neg (.int .i64 a)=some (.int .i64 (-a)):=by
 show some (PV.int .i64 (IntKind.i64.wrap (0-a)))=_
 rw[Int.zero_sub,wrap_i64 h]
theorem yk(h:(0-(x:Int))%18446744073709551616=(r:Int)):zW .neg (.int .u64 (x:Int))=some (.int .u64 (r:Int)):=by
 rw[←h];rfl
theorem A5(h:a%18446744073709551616=(r:Int)):IntKind.u64.wrap a=(r:Int):=h
theorem w9(h:x%18446744073709551616=r):IntKind.u64.wrap (x:Int)=(r:Int):=by rw[←h];simp[wrap_u64]
theorem cu(h:x%4294967296=r):IntKind.u32.wrap (x:Int)=(r:Int):=by rw[←h];simp[wrap_u32]
theorem yl(h:x%256=r):IntKind.u8.wrap (x:Int)=(r:Int):=by
 have e:∀n:Int,IntKind.u8.wrap n=n%256:=fun n=>rfl
 rw[e,←h];simp
theorem oK(h:x<9223372036854775808):IntKind.i64.wrap (x:Int)=(x:Int):=wrap_i64 (by unfold aK;omega)
theorem my(v:UInt32):IntKind.u64.wrap (v.toNat:Int)=(v.toNat:Int):=by
 have:=v.toNat_lt;rw[wrap_u64];omega
theorem bf(h:a<b):decide (a<b)=true:=decide_eq_true h
theorem bp(h:b≤a):decide (a<b)=false:=decide_eq_false (Int.not_lt.2 h)
theorem eM(h:a≤b):decide (a≤b)=true:=decide_eq_true h
theorem jI(h:b<a):decide (a≤b)=false:=decide_eq_false (Int.not_le.2 h)
theorem bA(h:a=b):(a==b)=true:=by simp[h]
theorem bm(h:a≠b):(a==b)=false:=by simp[h]
theorem ba(h:a≠b):(a != b)=true:=by simp[h]
theorem aS(h:a=b):(a != b)=false:=by simp[h]
theorem ay(h:x<y):decide ((x:Int)<(y:Int))=true:=decide_eq_true (Int.ofNat_lt.2 h)
theorem az(h:y≤x):decide ((x:Int)<(y:Int))=false:=bp (Int.ofNat_le.2 h)
theorem bw(h:x≤y):decide ((x:Int)≤(y:Int))=true:=decide_eq_true (Int.ofNat_le.2 h)
theorem aX(h:y<x):decide ((x:Int)≤(y:Int))=false:=jI (Int.ofNat_lt.2 h)
theorem bd(h:x=y):((x:Int)==(y:Int))=true:=by simp[h]
theorem aR(h:x≠y):((x:Int)==(y:Int))=false:=bm (by omega)
theorem dc(h:x≠y):((x:Int) != (y:Int))=true:=ba (by omega)
theorem bM(h:x=y):((x:Int) != (y:Int))=false:=by simp[h]
theorem aD{p:Bool}(h:p=false):(!p)=true:=by simp[h]
theorem ah{p:Bool}(h:p=true):(!p)=false:=by simp[h]
theorem oL{p q:Bool}(h:p=q):(p==q)=true:=by simp[h]
theorem sV{p q:Bool}(h:p≠q):(p==q)=false:=by simp[h]
theorem QN:(if (y:Int)>(x:Int) then (y:Int) else (x:Int))=((max x y:Nat):Int):=by split<;>omega
theorem QO:(if b>a then b else a)=max a b:=by split<;>omega
theorem QP:(if b<a then b else a)=min a b:=by split<;>omega
end
section
variable {α:Type} {enc:α→List PV} {xs ys:List α} {k l u n m sz off:Nat} {v d:α}
def Sz(enc:α→List PV)(sz:Nat):Prop:=∀a,(enc a).length=sz
theorem bc:Sz ai 1:=fun _=>rfl
theorem pk:Sz aq 1:=fun _=>rfl
theorem mT:Sz aC 1:=fun _=>rfl
theorem QQ(enc:α→List PV):Sz (k9 enc) 1:=fun _=>rfl
theorem Om(h:xs[k]? = some v):(xs.map enc)[k]? = some (enc v):=by simp[h]
theorem oM(hs:Sz enc sz):∀xs:List α,((xs.map enc).flatten).length=xs.length*sz
 |[]=>by simp
 |x::xs=>by simp[oM hs xs,hs x,Nat.add_mul,Nat.add_comm]
theorem pU(hs:Sz enc sz):∀(xs:List α) (k:Nat),((xs.map enc).flatten).drop (k*sz)=((xs.drop k).map enc).flatten
 |[],k=>by simp
 |x::xs,0=>by simp
 |x::xs,k+1=>by
  rw[List.drop_succ_cons,←pU hs xs k,List.map_cons,List.flatten_cons,Nat.succ_mul,Nat.add_comm,←List.drop_drop,List.drop_left' (hs x)]
theorem vt(hs:Sz enc sz):∀(xs:List α) (k:Nat),((xs.map enc).flatten).take (k*sz)=((xs.take k).map enc).flatten
 |[],k=>by simp
 |x::xs,0=>by simp
 |x::xs,k+1=>by
  have h:(k+1)*sz=(enc x).length+k*sz:=by rw[hs x,Nat.succ_mul,Nat.add_comm]
  rw[List.take_succ_cons,List.map_cons,List.map_cons,List.flatten_cons,List.flatten_cons,←vt hs xs k,h,List.take_length_add_append]
theorem HP{f:α→PV}(he:∀a,enc a=[f a])(h:xs[k]? = some v):(((xs.map enc).flatten).map EV.pv)[0+k*1]? = some (.pv (f v)):=by
 have hs:Sz enc 1:=fun a=>by rw[he];rfl
 have h1:=pU hs xs k
 have hk:k<xs.length:=(List.getElem?_eq_some_iff.1 h).1
 have hv:xs[k]=v:=by
  have:=List.getElem?_eq_getElem hk
  rw[h] at this;injection this with this;exact this.symm
 have h2:((xs.map enc).flatten)[k*1]? = some (f v):=by
  have:(((xs.map enc).flatten).drop (k*1))[0]? = some (f v):=by
   rw[h1,List.drop_eq_getElem_cons hk,hv];simp[he]
  rw[List.getElem?_drop] at this
  simpa using this
 rw[Nat.zero_add,List.getElem?_map,h2];rfl
theorem Mc(hs:Sz enc sz)(h:xs[k]? = some v):((((xs.map enc).flatten).map EV.pv).drop (0+k*sz)).take sz=(enc v).map EV.pv:=by
 have hk:k<xs.length:=(List.getElem?_eq_some_iff.1 h).1
 have hv:xs[k]=v:=by
  have:=List.getElem?_eq_getElem hk
  rw[h] at this;injection this with this;exact this.symm
 rw[Nat.zero_add,←List.map_drop,←List.map_take,pU hs,List.drop_eq_getElem_cons hk,hv,List.map_cons,List.flatten_cons,List.take_left' (hs v)]
theorem Ak(hs:Sz enc sz)(h:k<xs.length):cZ ((xs.map enc).flatten) (k*sz) (enc v)=((xs.set k v).map enc).flatten:=by
 unfold cZ
 have h1:(enc v).length=sz:=hs v
 rw[h1,vt hs,show k*sz+sz=(k+1)*sz from(Nat.succ_mul k sz).symm,pU hs,List.set_eq_take_append_cons_drop,if_pos h]
 simp
theorem HQ(hs:Sz enc sz)(h:k<xs.length):cZ (((xs.map enc).flatten).map EV.pv) (0+k*sz) ((enc v).map EV.pv)=(((xs.set k v).map enc).flatten).map EV.pv:=by
 rw[←Ak hs h,Nat.zero_add]
 simp[cZ,List.map_drop,List.map_take]
theorem ym(hs:Sz enc sz)(h:k<xs.length):(0+k*sz)+((enc v).map EV.pv).length≤(((xs.map enc).flatten).map EV.pv).length:=by
 rw[Nat.zero_add,List.length_map,List.length_map,hs v,oM hs]
 calc k*sz+sz=(k+1)*sz:=(Nat.succ_mul k sz).symm
  _≤xs.length*sz:=Nat.mul_le_mul_right _ h
theorem xa(hs:Sz enc sz):∀row∈xs.map enc,row.length=sz:=by
 intro row h
 obtain⟨a,_,rfl⟩:=List.mem_map.1 h
 exact hs a
theorem HT:(xs.map enc).flatten++(ys.map enc).flatten=((xs++ys).map enc).flatten:=by simp
theorem Eg:xs.length+(ys.map enc).length=(xs++ys).length:=by simp
theorem CH:xs.length+ys.length=(xs++ys).length:=by simp
theorem J4:((xs.map enc).take u).drop 0=(xs.take u).map enc:=by simp[List.map_take]
theorem On(h:k≤xs.length):k≤(xs.map enc).length:=by simpa using h
theorem Oo{b:Int}(h:b=(k:Int))(hk:k≤xs.length):b=(((xs.take k).length:Nat):Int):=by rw[h,List.length_take];omega
theorem J5:(xs.take k).length≤xs.length:=by rw[List.length_take];omega
theorem yn{b:Nat}(h:n*b≤140737488355328)(hb:Nat.ble 1 b=true):n<9223372036854775808:=by
 have h1:1≤b:=Nat.le_of_ble_eq_true hb
 have h2:n*1≤n*b:=Nat.mul_le_mul_left n h1
 omega
theorem F8{b:Nat}(h:b*n≤140737488355328)(hb:Nat.ble 1 b=true):n<9223372036854775808:=yn (by rw[Nat.mul_comm];exact h) hb
theorem Md{z:List PV}(h:z=enc d):(List.replicate m z).flatten=((List.replicate m d).map enc).flatten:=by simp[h]
theorem J6(h:n=xs.length):n=(xs.map enc).length:=by simpa using h
theorem av(enc:α→List PV)(xs:List α):((xs.map enc).length:Int)=(xs.length:Int):=by simp
theorem aL(enc:α→List PV){i:Int}(hi:i=(k:Int))(h:xs[k]? = some v):i=(k:Int)∧(xs.map enc)[k]? = some (enc v)∧(enc v).length=(enc v).length:=⟨hi,Om h,rfl⟩
theorem Fg(hs:Sz enc sz)(h:xs[k]? = some v):((xs.map enc).flatten).drop (k*sz)=enc v++((xs.drop (k+1)).map enc).flatten:=by
 have hk:k<xs.length:=(List.getElem?_eq_some_iff.1 h).1
 have hv:xs[k]=v:=by
  have:=List.getElem?_eq_getElem hk
  rw[h] at this;injection this with this;exact this.symm
 rw[pU hs,List.drop_eq_getElem_cons hk,hv,List.map_cons,List.flatten_cons]
theorem zJ(hs:Sz enc sz)(X:List α):(X.map enc).flatten=(X.map enc).flatten∧(X.map enc).length=(X.map enc).length∧∀row∈X.map enc,row.length=sz:=⟨rfl,rfl,xa hs⟩
theorem pV(hs:Sz enc sz)(h:xs[k]? = some v):((((xs.map enc).flatten).map EV.pv).drop (0+k*sz)).take sz=(enc v).map EV.pv∧(enc v).length=(enc v).length:=⟨Mc hs h,rfl⟩
theorem dz{f:α→PV}(he:∀a,enc a=[f a])(h:xs[k]? = some v):(((xs.map enc).flatten).map EV.pv)[0+k*1]? = some (.pv (f v)):=HP he h
theorem Me(hs:Sz enc sz)(h:xs[k]? = some v)(fo:Nat){c:PV}(hc:(enc v)[fo]? = some c):(((xs.map enc).flatten).map EV.pv)[(0+k*sz)+fo]? = some (.pv c):=by
 have cN:fo<(enc v).length:=(List.getElem?_eq_some_iff.1 hc).1
 have h1:(((xs.map enc).flatten).drop (k*sz))[fo]? = some c:=by rw[Fg hs h,List.getElem?_append,if_pos cN];exact hc
 rw[List.getElem?_drop] at h1
 rw[Nat.zero_add,List.getElem?_map,h1];rfl
theorem pn(enc:α→List PV)(d:α){n:Int}(b m:Nat)(hm:n=(m:Int))(h:b*m≤140737488355328)(hb:Nat.ble 1 b=true) :
  n=(m:Int)∧n=(m:Int)∧b*m≤140737488355328∧m<9223372036854775808∧(List.replicate m (enc d)).flatten=((List.replicate m d).map enc).flatten:=⟨hm,hm,h,F8 h hb,Md rfl⟩
theorem we(hs:Sz enc sz)(xs:List α){b:Int}(h2:b=(u:Int))(h4:u≤xs.length) :
  ((0:Nat):Int)=((0:Nat):Int)∧b=(u:Int)∧0≤u∧u≤(xs.map enc).length∧((xs.map enc).take u).drop 0=(xs.take u).map enc∧∀row∈(xs.take u).map enc,row.length=sz :=
 ⟨rfl,h2,Nat.zero_le _,On h4,J4,xa hs⟩
theorem eN(hs:Sz enc sz)(xs:List α)(v:α)(h:k<xs.length):(0+k*sz)+((enc v).map EV.pv).length≤(((xs.map enc).flatten).map EV.pv).length∧cZ (((xs.map enc).flatten).map EV.pv) (0+k*sz) ((enc v).map EV.pv)=(((xs.set k v).map enc).flatten).map EV.pv :=
 ⟨ym hs h,HQ hs h⟩
theorem yo(hs:Sz enc sz)(h:xs[k]? = some v)(fo:Nat)(part:List PV)(v':α)(he:cZ (enc v) fo part=enc v')(hf:Nat.ble (fo+part.length) sz=true) :
  ((0+k*sz)+fo)+(part.map EV.pv).length≤(((xs.map enc).flatten).map EV.pv).length∧cZ (((xs.map enc).flatten).map EV.pv) ((0+k*sz)+fo) (part.map EV.pv)=(((xs.set k v').map enc).flatten).map EV.pv:=by
 have zT:fo+part.length≤sz:=Nat.le_of_ble_eq_true hf
 have hk:k<xs.length:=(List.getElem?_eq_some_iff.1 h).1
 have hl:(enc v).length=sz:=hs v
 have hle:k*sz+sz≤xs.length*sz:=by
  calc k*sz+sz=(k+1)*sz:=(Nat.succ_mul k sz).symm
   _≤xs.length*sz:=Nat.mul_le_mul_right _ hk
 refine⟨by rw[List.length_map,List.length_map,oM hs];omega,?_⟩
 have e:cZ ((xs.map enc).flatten) (k*sz+fo) part=cZ ((xs.map enc).flatten) (k*sz) (cZ (enc v) fo part):=by
  apply List.ext_getElem?
  intro j
  have l1:(cZ (enc v) fo part).length=sz:=by rw[qg _ _ _ (by omega),hl]
  rw[fI _ _ _ (by rw[oM hs];omega),fI _ _ _ (by rw[oM hs,l1];omega),l1]
  by_cases h1:k*sz≤j∧j<k*sz+sz
  ·rw[if_pos h1,fI _ _ _ (by omega)]
   by_cases h2:fo≤j-k*sz∧j-k*sz<fo+part.length
   ·rw[if_pos (by omega),if_pos h2];congr 1;omega
   ·rw[if_neg (by omega),if_neg h2]
    have h3:(((xs.map enc).flatten).drop (k*sz))[j-k*sz]? = (enc v)[j-k*sz]? := by rw[Fg hs h,List.getElem?_append,if_pos (by omega)]
    rw[List.getElem?_drop] at h3
    rw[←h3];congr 1;omega
  ·rw[if_neg (by omega),if_neg h1]
 rw[Nat.zero_add,←D0,e,he,Ak hs hk]
theorem rF(hs:Sz enc sz)(xs ys:List α)(b:Nat)(hx:xs.length=n)(h:(xs++ys).length*b≤140737488355328)(hb:Nat.ble 1 b=true) :
  ((xs.map enc).flatten).length=n*sz∧(∀row∈ys.map enc,row.length=sz)∧n+(ys.map enc).length=(xs++ys).length∧(xs.map enc).flatten++(ys.map enc).flatten=((xs++ys).map enc).flatten ∧
   (xs++ys).length*b≤140737488355328∧(xs++ys).length<9223372036854775808 :=
 ⟨by rw[oM hs,hx],xa hs,by rw[←hx];exact Eg,HT,h,yn h hb⟩
theorem gw(hs:Sz enc sz)(xs ys:List α)(b:Nat)(hx:xs.length=n)(hy:ys.length=m)(h:(xs++ys).length*b≤140737488355328)(hb:Nat.ble 1 b=true) :
  ((xs.map enc).flatten).length=n*sz∧((ys.map enc).flatten).length=m*sz∧n+m=(xs++ys).length∧(xs.map enc).flatten++(ys.map enc).flatten=((xs++ys).map enc).flatten ∧
   (xs++ys).length*b≤140737488355328∧(xs++ys).length<9223372036854775808 :=
 ⟨by rw[oM hs,hx],by rw[oM hs,hy],by rw[←hx,←hy];exact CH,HT,h,yn h hb⟩
theorem cq(hs:Sz enc sz)(xs:List α)(h:n=xs.length):n=(xs.map enc).length∧(xs.map enc).flatten=(xs.map enc).flatten∧∀row∈xs.map enc,row.length=sz:=⟨J6 h,rfl,xa hs⟩
theorem Al(hs:Sz enc sz)(xs:List α)(k:Nat):((xs.map enc).flatten).take (k*sz)=((xs.take k).map enc).flatten:=vt hs xs k
theorem yp(x y:Nat):(if (y:Int)>(x:Int) then (y:Int) else (x:Int))=((max x y:Nat):Int):=QN
theorem Mf(a b:Int):(if b>a then b else a)=max a b:=QO
theorem Mg(a b:Int):(if b<a then b else a)=min a b:=QP
theorem l7{f:α→PV}(he:∀a,enc a=[f a])(h:xs[off+k]? = some v):(((xs.map enc).flatten).map EV.pv)[off+k*1]? = some (.pv (f v)):=by
 have:=HP (xs:=xs) (k:=off+k) he h
 rw[Nat.mul_one]
 rw[Nat.zero_add,Nat.mul_one] at this
 exact this
theorem A6(hs:Sz enc 1)(xs:List α)(v:α)(off k:Nat)(h:off+k<xs.length):(off+k*1)+((enc v).map EV.pv).length≤(((xs.map enc).flatten).map EV.pv).length∧cZ (((xs.map enc).flatten).map EV.pv) (off+k*1) ((enc v).map EV.pv)=(((xs.set (off+k) v).map enc).flatten).map EV.pv:=by
 have h1:=ym (k:=off+k) (v:=v) hs h
 have h2:=HQ (k:=off+k) (v:=v) hs h
 rw[Nat.zero_add,Nat.mul_one] at h1 h2
 rw[Nat.mul_one]
 exact⟨h1,h2⟩
theorem K7(xs:List α){b:Int}(h:b=(k:Int))(hk:k≤xs.length):((0:Nat):Int)=((0:Nat):Int)∧b=(((xs.take k).length:Nat):Int)∧(0=0∨0<(xs.take k).length)∧0≤(xs.take k).length∧(xs.take k).length≤xs.length :=
 ⟨rfl,Oo h hk,.inl rfl,Nat.zero_le _,J5⟩
theorem Mh{a b:Int}(h1:a=(l:Int))(h2:b=(u:Int))(h3:l=0∨l<u)(h4:l≤u)(h5:u≤n):a=(l:Int)∧b=(u:Int)∧(l=0∨l<u)∧l≤u∧u≤n:=⟨h1,h2,h3,h4,h5⟩
theorem J7{x:Int}{op:BinOp}{q r:PV}(h:x=(k:Int))(hb:ez true op (.int .i64 (k:Int)) q=some r):ez true op (.int .i64 x) q=some r:=by rw[h];exact hb
theorem J8{x:Int}{op:BinOp}{p r:PV}{kk:IntKind}(h:x=(k:Int))(hb:ez true op p (.int kk (k:Int))=some r):ez true op p (.int kk x)=some r:=by rw[h];exact hb
end
end Go.Proofs.YtfjfekodeplcoaaGreat.Sym
