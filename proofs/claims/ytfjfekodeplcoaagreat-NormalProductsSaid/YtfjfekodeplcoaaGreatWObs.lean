/- Lemmas for the statements of this seat. -/
import Derived.Test.YtfjfekodeplcoaaGreatWTypes
namespace Go.Proofs.YtfjfekodeplcoaaGreat.Sym
open Go
def aO(n:Int):Prop := -9223372036854775808≤n∧n<9223372036854775808
theorem wrap_i64{n:Int}(h:aO n):IntKind.i64.wrap n=n:=by
 obtain⟨h1,h2⟩:=h
 have e:IntKind.i64.wrap n=(if (true&&decide (n%18446744073709551616≥9223372036854775808))=true then n%18446744073709551616-18446744073709551616 else n%18446744073709551616):=rfl
 rw[e]
 by_cases hn:n%18446744073709551616≥9223372036854775808
 ·simp[hn];omega
 ·simp[hn];omega
theorem wrap_u64(n:Int):IntKind.u64.wrap n=n%18446744073709551616:=rfl
theorem wrap_u32(n:Int):IntKind.u32.wrap n=n%4294967296:=rfl
section
variable {a b:Int} {x y z r:Nat}
theorem bj{a b:ByteArray}(h:a=b):decide (a=b)=true:=decide_eq_true h
theorem cG{a b:ByteArray}(h:a≠b):decide (a=b)=false:=decide_eq_false h
theorem ki(h:aO (a+b)):eS true .add (.int .i64 a) (.int .i64 b)=some (.int .i64 (a+b)):=by
 show some (PV.int .i64 (IntKind.i64.wrap (a+b)))=_
 rw[wrap_i64 h]
theorem bS(h:aO (a-b)):eS true .sub (.int .i64 a) (.int .i64 b)=some (.int .i64 (a-b)):=by
 show some (PV.int .i64 (IntKind.i64.wrap (a-b)))=_
 rw[wrap_i64 h]
theorem M9(h:aO (a*b)):eS true .mul (.int .i64 a) (.int .i64 b)=some (.int .i64 (a*b)):=by
 show some (PV.int .i64 (IntKind.i64.wrap (a*b)))=_
 rw[wrap_i64 h]
theorem aH(h:x+y<9223372036854775808):eS true .add (.int .i64 (x:Int)) (.int .i64 (y:Int))=some (.int .i64 ((x+y:Nat):Int)):=by
 rw[ki (by unfold aO;omega)];simp
theorem Ga(h:y≠0)(h2:x<9223372036854775808):eS true .quo (.int .i64 (x:Int)) (.int .i64 (y:Int))=some (.int .i64 ((x/y:Nat):Int)):=by
 have h1:decide ((y:Int)=0)=false:=by simp[h]
 show(bif decide ((y:Int)=0) then none else some (PV.int .i64 (IntKind.i64.wrap ((x:Int).tdiv (y:Int)))))=_
 have h3:(x:Int).tdiv (y:Int)=((x/y:Nat):Int):=by simp
 have h4:x/y≤x:=Nat.div_le_self _ _
 rw[h1,h3,wrap_i64 (by generalize x/y=q at *;unfold aO;omega)];rfl
theorem Gb(h:y≠0):eS true .rem (.int .i64 (x:Int)) (.int .i64 (y:Int))=some (.int .i64 ((x%y:Nat):Int)):=by
 have h1:decide ((y:Int)=0)=false:=by simp[h]
 show(bif decide ((y:Int)=0) then none else some (PV.int .i64 ((x:Int).tmod (y:Int))))=_
 have h3:(x:Int).tmod (y:Int)=((x%y:Nat):Int):=by rw[Int.tmod_eq_emod_of_nonneg (by omega)];simp
 rw[h1,h3];rfl
theorem dp(h:(x+y)%18446744073709551616=r):eS true .add (.int .u64 (x:Int)) (.int .u64 (y:Int))=some (.int .u64 (r:Int)):=by
 subst h;show some (PV.int .u64 (((x:Int)+(y:Int))%18446744073709551616))=_;simp
theorem lW(h:(x*y)%18446744073709551616=r):eS true .mul (.int .u64 (x:Int)) (.int .u64 (y:Int))=some (.int .u64 (r:Int)):=by
 subst h;show some (PV.int .u64 (((x:Int)*(y:Int))%18446744073709551616))=_;simp
theorem da(h:((x:Int)-(y:Int))%18446744073709551616=(r:Int)):eS true .sub (.int .u64 (x:Int)) (.int .u64 (y:Int))=some (.int .u64 (r:Int)):=by
 rw[←h];rfl
theorem zu(hy:y≠0)(h:(x/y)%18446744073709551616=r):eS true .quo (.int .u64 (x:Int)) (.int .u64 (y:Int))=some (.int .u64 (r:Int)):=by
 have h1:decide ((y:Int)=0)=false:=by simp[hy]
 show(bif decide ((y:Int)=0) then none else some (PV.int .u64 (((x:Int).tdiv (y:Int))%18446744073709551616)))=_
 have h3:(x:Int).tdiv (y:Int)=((x/y:Nat):Int):=by simp
 rw[h1,h3,←h];simp
theorem zv(hy:y≠0)(h:x%y=r):eS true .rem (.int .u64 (x:Int)) (.int .u64 (y:Int))=some (.int .u64 (r:Int)):=by
 have h1:decide ((y:Int)=0)=false:=by simp[hy]
 show(bif decide ((y:Int)=0) then none else some (PV.int .u64 ((x:Int).tmod (y:Int))))=_
 have h3:(x:Int).tmod (y:Int)=((x%y:Nat):Int):=by rw[Int.tmod_eq_emod_of_nonneg (by omega)];simp
 rw[h1,h3,←h];simp
theorem lX(h:(x%18446744073709551616) ||| (y%18446744073709551616)=r):eS true .or (.int .u64 (x:Int)) (.int .u64 (y:Int))=some (.int .u64 (r:Int)):=by
 show some (PV.int .u64 (((BitVec.ofInt 64 (x:Int) ||| BitVec.ofInt 64 (y:Int)).toNat:Int)%18446744073709551616))=_
 have h2:(BitVec.ofInt 64 (x:Int) ||| BitVec.ofInt 64 (y:Int)).toNat=r:=by
  rw[←h];simp[BitVec.toNat_or]
 have h3:=(BitVec.ofInt 64 (x:Int) ||| BitVec.ofInt 64 (y:Int)).isLt
 rw[h2] at h3 ⊢
 congr 2;omega
theorem gZ{k:IntKind}(h:(x*2^(min y 64))%18446744073709551616=r):eS true .shl (.int .u64 (x:Int)) (.int k (y:Int))=some (.int .u64 (r:Int)):=by
 have h1:decide ((y:Int)<0)=false:=by simp
 show(bif decide ((y:Int)<0) then none else some (PV.int .u64 (((x:Int)*2^(min y 64))%18446744073709551616)))=_
 rw[h1,←h];simp
theorem cN{k:IntKind}(h:x/2^(min y 64)=r):eS true .shr (.int .u64 (x:Int)) (.int k (y:Int))=some (.int .u64 (r:Int)):=by
 have h1:decide ((y:Int)<0)=false:=by simp
 show(bif decide ((y:Int)<0) then none else some (PV.int .u64 ((x:Int).fdiv (2^(min y 64)))))=_
 rw[h1,←h,Int.fdiv_eq_ediv_of_nonneg _ (by exact_mod_cast Nat.zero_le _)];simp
theorem sC(h:(x%4294967296) ||| (y%4294967296)=r):eS true .or (.int .u32 (x:Int)) (.int .u32 (y:Int))=some (.int .u32 (r:Int)):=by
 show some (PV.int .u32 (((BitVec.ofInt 32 (x:Int) ||| BitVec.ofInt 32 (y:Int)).toNat:Int)%4294967296))=_
 have h2:(BitVec.ofInt 32 (x:Int) ||| BitVec.ofInt 32 (y:Int)).toNat=r:=by
  rw[←h];simp[BitVec.toNat_or]
 have h3:=(BitVec.ofInt 32 (x:Int) ||| BitVec.ofInt 32 (y:Int)).isLt
 rw[h2] at h3 ⊢
 congr 2;omega
theorem fH(h:(x%4294967296) &&& (y%4294967296)=r):eS true .and (.int .u32 (x:Int)) (.int .u32 (y:Int))=some (.int .u32 (r:Int)):=by
 show some (PV.int .u32 (((BitVec.ofInt 32 (x:Int) &&& BitVec.ofInt 32 (y:Int)).toNat:Int)%4294967296))=_
 have h2:(BitVec.ofInt 32 (x:Int) &&& BitVec.ofInt 32 (y:Int)).toNat=r:=by
  rw[←h];simp[BitVec.toNat_and]
 have h3:=(BitVec.ofInt 32 (x:Int) &&& BitVec.ofInt 32 (y:Int)).isLt
 rw[h2] at h3 ⊢
 congr 2;omega
theorem zw{k:IntKind}(h:(x*2^(min y 32))%4294967296=r):eS true .shl (.int .u32 (x:Int)) (.int k (y:Int))=some (.int .u32 (r:Int)):=by
 have h1:decide ((y:Int)<0)=false:=by simp
 show(bif decide ((y:Int)<0) then none else some (PV.int .u32 (((x:Int)*2^(min y 32))%4294967296)))=_
 rw[h1,←h];simp
theorem kj{k:IntKind}(h:x/2^(min y 32)=r):eS true .shr (.int .u32 (x:Int)) (.int k (y:Int))=some (.int .u32 (r:Int)):=by
 have h1:decide ((y:Int)<0)=false:=by simp
 show(bif decide ((y:Int)<0) then none else some (PV.int .u32 ((x:Int).fdiv (2^(min y 32)))))=_
 rw[h1,←h,Int.fdiv_eq_ediv_of_nonneg _ (by exact_mod_cast Nat.zero_le _)];simp
theorem Na(h:aO (-a)):AX .neg (.int .i64 a)=some (.int .i64 (-a)):=by
 show some (PV.int .i64 (IntKind.i64.wrap (0-a)))=_
 rw[Int.zero_sub,wrap_i64 h]
theorem zx(h:(0-(x:Int))%18446744073709551616=(r:Int)):AX .neg (.int .u64 (x:Int))=some (.int .u64 (r:Int)):=by
 rw[←h];rfl
theorem B0(h:a%18446744073709551616=(r:Int)):IntKind.u64.wrap a=(r:Int):=h
theorem x7(h:x%18446744073709551616=r):IntKind.u64.wrap (x:Int)=(r:Int):=by rw[←h];simp[wrap_u64]
theorem cD(h:x%4294967296=r):IntKind.u32.wrap (x:Int)=(r:Int):=by rw[←h];simp[wrap_u32]
theorem zy(h:x%256=r):IntKind.u8.wrap (x:Int)=(r:Int):=by
 have e:∀n:Int,IntKind.u8.wrap n=n%256:=fun n=>rfl
 rw[e,←h];simp
theorem u0(h:x<9223372036854775808):IntKind.i64.wrap (x:Int)=(x:Int):=wrap_i64 (by unfold aO;omega)
theorem mq(v:UInt32):IntKind.u64.wrap (v.toNat:Int)=(v.toNat:Int):=by
 have:=v.toNat_lt;rw[wrap_u64];omega
theorem bd(h:a<b):decide (a<b)=true:=decide_eq_true h
theorem ba(h:b≤a):decide (a<b)=false:=decide_eq_false (Int.not_lt.2 h)
theorem dz(h:a≤b):decide (a≤b)=true:=decide_eq_true h
theorem eL(h:b<a):decide (a≤b)=false:=decide_eq_false (Int.not_le.2 h)
theorem aP(h:a=b):(a==b)=true:=by simp[h]
theorem bP(h:a≠b):(a==b)=false:=by simp[h]
theorem bq(h:a≠b):(a != b)=true:=by simp[h]
theorem aA(h:a=b):(a != b)=false:=by simp[h]
theorem ax(h:x<y):decide ((x:Int)<(y:Int))=true:=decide_eq_true (Int.ofNat_lt.2 h)
theorem ay(h:y≤x):decide ((x:Int)<(y:Int))=false:=ba (Int.ofNat_le.2 h)
theorem bB(h:x≤y):decide ((x:Int)≤(y:Int))=true:=decide_eq_true (Int.ofNat_le.2 h)
theorem aZ(h:y<x):decide ((x:Int)≤(y:Int))=false:=eL (Int.ofNat_lt.2 h)
theorem br(h:x=y):((x:Int)==(y:Int))=true:=by simp[h]
theorem aT(h:x≠y):((x:Int)==(y:Int))=false:=bP (by omega)
theorem aI(h:x≠y):((x:Int) != (y:Int))=true:=bq (by omega)
theorem b8(h:x=y):((x:Int) != (y:Int))=false:=by simp[h]
theorem aF{p:Bool}(h:p=false):(!p)=true:=by simp[h]
theorem ae{p:Bool}(h:p=true):(!p)=false:=by simp[h]
theorem oL{p q:Bool}(h:p=q):(p==q)=true:=by simp[h]
theorem tn{p q:Bool}(h:p≠q):(p==q)=false:=by simp[h]
theorem R9:(if (y:Int)>(x:Int) then (y:Int) else (x:Int))=((max x y:Nat):Int):=by split<;>omega
theorem Sa:(if b>a then b else a)=max a b:=by split<;>omega
theorem Sb:(if b<a then b else a)=min a b:=by split<;>omega
end
section
variable {α:Type} {enc:α→List PV} {xs ys:List α} {k l u n m sz off:Nat} {v d:α}
def Sz(enc:α→List PV)(sz:Nat):Prop:=∀a,(enc a).length=sz
theorem bm:Sz af 1:=fun _=>rfl
theorem zA:Sz aB 1:=fun _=>rfl
theorem B1:Sz aQ 1:=fun _=>rfl
theorem Sc(enc:α→List PV):Sz (k8 enc) 1:=fun _=>rfl
theorem PE(h:xs[k]? = some v):(xs.map enc)[k]? = some (enc v):=by simp[h]
theorem oM(hs:Sz enc sz):∀xs:List α,((xs.map enc).flatten).length=xs.length*sz
 |[]=>by simp
 |x::xs=>by simp[oM hs xs,hs x,Nat.add_mul,Nat.add_comm]
theorem pW(hs:Sz enc sz):∀(xs:List α) (k:Nat),((xs.map enc).flatten).drop (k*sz)=((xs.drop k).map enc).flatten
 |[],k=>by simp
 |x::xs,0=>by simp
 |x::xs,k+1=>by
  rw[List.drop_succ_cons,←pW hs xs k,List.map_cons,List.flatten_cons,Nat.succ_mul,Nat.add_comm,←List.drop_drop,List.drop_left' (hs x)]
theorem wu(hs:Sz enc sz):∀(xs:List α) (k:Nat),((xs.map enc).flatten).take (k*sz)=((xs.take k).map enc).flatten
 |[],k=>by simp
 |x::xs,0=>by simp
 |x::xs,k+1=>by
  have h:(k+1)*sz=(enc x).length+k*sz:=by rw[hs x,Nat.succ_mul,Nat.add_comm]
  rw[List.take_succ_cons,List.map_cons,List.map_cons,List.flatten_cons,List.flatten_cons,←wu hs xs k,h,List.take_length_add_append]
theorem IH{f:α→PV}(he:∀a,enc a=[f a])(h:xs[k]? = some v):(((xs.map enc).flatten).map EV.pv)[0+k*1]? = some (.pv (f v)):=by
 have hs:Sz enc 1:=fun a=>by rw[he];rfl
 have h1:=pW hs xs k
 have hk:k<xs.length:=(List.getElem?_eq_some_iff.1 h).1
 have hv:xs[k]=v:=by
  have:=List.getElem?_eq_getElem hk
  rw[h] at this;injection this with this;exact this.symm
 have h2:((xs.map enc).flatten)[k*1]? = some (f v):=by
  have:(((xs.map enc).flatten).drop (k*1))[0]? = some (f v):=by
   rw[h1,List.drop_eq_getElem_cons hk,hv];simp[he]
  rw[List.getElem?_drop] at this
  simpa using this
 rw[Nat.zero_add,List.getElem?_map,h2];rfl
theorem Nb(hs:Sz enc sz)(h:xs[k]? = some v):((((xs.map enc).flatten).map EV.pv).drop (0+k*sz)).take sz=(enc v).map EV.pv:=by
 have hk:k<xs.length:=(List.getElem?_eq_some_iff.1 h).1
 have hv:xs[k]=v:=by
  have:=List.getElem?_eq_getElem hk
  rw[h] at this;injection this with this;exact this.symm
 rw[Nat.zero_add,←List.map_drop,←List.map_take,pW hs,List.drop_eq_getElem_cons hk,hv,List.map_cons,List.flatten_cons,List.take_left' (hs v)]
theorem Bc(hs:Sz enc sz)(h:k<xs.length):cF ((xs.map enc).flatten) (k*sz) (enc v)=((xs.set k v).map enc).flatten:=by
 unfold cF
 have h1:(enc v).length=sz:=hs v
 rw[h1,wu hs,show k*sz+sz=(k+1)*sz from(Nat.succ_mul k sz).symm,pW hs,List.set_eq_take_append_cons_drop,if_pos h]
 simp
theorem II(hs:Sz enc sz)(h:k<xs.length):cF (((xs.map enc).flatten).map EV.pv) (0+k*sz) ((enc v).map EV.pv)=(((xs.set k v).map enc).flatten).map EV.pv:=by
 rw[←Bc hs h,Nat.zero_add]
 simp[cF,List.map_drop,List.map_take]
theorem zB(hs:Sz enc sz)(h:k<xs.length):(0+k*sz)+((enc v).map EV.pv).length≤(((xs.map enc).flatten).map EV.pv).length:=by
 rw[Nat.zero_add,List.length_map,List.length_map,hs v,oM hs]
 calc k*sz+sz=(k+1)*sz:=(Nat.succ_mul k sz).symm
  _≤xs.length*sz:=Nat.mul_le_mul_right _ h
theorem x8(hs:Sz enc sz):∀row∈xs.map enc,row.length=sz:=by
 intro row h
 obtain⟨a,_,rfl⟩:=List.mem_map.1 h
 exact hs a
theorem IJ:(xs.map enc).flatten++(ys.map enc).flatten=((xs++ys).map enc).flatten:=by simp
theorem E9:xs.length+(ys.map enc).length=(xs++ys).length:=by simp
theorem Dp:xs.length+ys.length=(xs++ys).length:=by simp
theorem KQ:((xs.map enc).take u).drop 0=(xs.take u).map enc:=by simp[List.map_take]
theorem PF(h:k≤xs.length):k≤(xs.map enc).length:=by simpa using h
theorem PG{b:Int}(h:b=(k:Int))(hk:k≤xs.length):b=(((xs.take k).length:Nat):Int):=by rw[h,List.length_take];omega
theorem KR:(xs.take k).length≤xs.length:=by rw[List.length_take];omega
theorem zC{b:Nat}(h:n*b≤140737488355328)(hb:Nat.ble 1 b=true):n<9223372036854775808:=by
 have h1:1≤b:=Nat.le_of_ble_eq_true hb
 have h2:n*1≤n*b:=Nat.mul_le_mul_left n h1
 omega
theorem G7{b:Nat}(h:b*n≤140737488355328)(hb:Nat.ble 1 b=true):n<9223372036854775808:=zC (by rw[Nat.mul_comm];exact h) hb
theorem Nc{z:List PV}(h:z=enc d):(List.replicate m z).flatten=((List.replicate m d).map enc).flatten:=by simp[h]
theorem KS(h:n=xs.length):n=(xs.map enc).length:=by simpa using h
theorem ar(enc:α→List PV)(xs:List α):((xs.map enc).length:Int)=(xs.length:Int):=by simp
theorem aY(enc:α→List PV){i:Int}(hi:i=(k:Int))(h:xs[k]? = some v):i=(k:Int)∧(xs.map enc)[k]? = some (enc v)∧(enc v).length=(enc v).length:=⟨hi,PE h,rfl⟩
theorem B2(hs:Sz enc sz)(h:xs[k]? = some v):((xs.map enc).flatten).drop (k*sz)=enc v++((xs.drop (k+1)).map enc).flatten:=by
 have hk:k<xs.length:=(List.getElem?_eq_some_iff.1 h).1
 have hv:xs[k]=v:=by
  have:=List.getElem?_eq_getElem hk
  rw[h] at this;injection this with this;exact this.symm
 rw[pW hs,List.drop_eq_getElem_cons hk,hv,List.map_cons,List.flatten_cons]
theorem AL(hs:Sz enc sz)(X:List α):(X.map enc).flatten=(X.map enc).flatten∧(X.map enc).length=(X.map enc).length∧∀row∈X.map enc,row.length=sz:=⟨rfl,rfl,x8 hs⟩
theorem qY(hs:Sz enc sz)(h:xs[k]? = some v):((((xs.map enc).flatten).map EV.pv).drop (0+k*sz)).take sz=(enc v).map EV.pv∧(enc v).length=(enc v).length:=⟨Nb hs h,rfl⟩
theorem fk{f:α→PV}(he:∀a,enc a=[f a])(h:xs[k]? = some v):(((xs.map enc).flatten).map EV.pv)[0+k*1]? = some (.pv (f v)):=IH he h
theorem Nd(hs:Sz enc sz)(h:xs[k]? = some v)(fo:Nat){c:PV}(hc:(enc v)[fo]? = some c):(((xs.map enc).flatten).map EV.pv)[(0+k*sz)+fo]? = some (.pv c):=by
 have cQ:fo<(enc v).length:=(List.getElem?_eq_some_iff.1 hc).1
 have h1:(((xs.map enc).flatten).drop (k*sz))[fo]? = some c:=by rw[B2 hs h,List.getElem?_append,if_pos cQ];exact hc
 rw[List.getElem?_drop] at h1
 rw[Nat.zero_add,List.getElem?_map,h1];rfl
theorem sX(enc:α→List PV)(d:α){n:Int}(b m:Nat)(hm:n=(m:Int))(h:b*m≤140737488355328)(hb:Nat.ble 1 b=true) :
  n=(m:Int)∧n=(m:Int)∧b*m≤140737488355328∧m<9223372036854775808∧(List.replicate m (enc d)).flatten=((List.replicate m d).map enc).flatten:=⟨hm,hm,h,G7 h hb,Nc rfl⟩
theorem w8(hs:Sz enc sz)(xs:List α){b:Int}(h2:b=(u:Int))(h4:u≤xs.length) :
  ((0:Nat):Int)=((0:Nat):Int)∧b=(u:Int)∧0≤u∧u≤(xs.map enc).length∧((xs.map enc).take u).drop 0=(xs.take u).map enc∧∀row∈(xs.take u).map enc,row.length=sz :=
 ⟨rfl,h2,Nat.zero_le _,PF h4,KQ,x8 hs⟩
theorem fO(hs:Sz enc sz)(xs:List α)(v:α)(h:k<xs.length):(0+k*sz)+((enc v).map EV.pv).length≤(((xs.map enc).flatten).map EV.pv).length∧cF (((xs.map enc).flatten).map EV.pv) (0+k*sz) ((enc v).map EV.pv)=(((xs.set k v).map enc).flatten).map EV.pv :=
 ⟨zB hs h,II hs h⟩
theorem IK(hs:Sz enc sz)(h:xs[k]? = some v)(fo:Nat)(part:List PV)(v':α)(he:cF (enc v) fo part=enc v')(hf:Nat.ble (fo+part.length) sz=true) :
  ((0+k*sz)+fo)+(part.map EV.pv).length≤(((xs.map enc).flatten).map EV.pv).length∧cF (((xs.map enc).flatten).map EV.pv) ((0+k*sz)+fo) (part.map EV.pv)=(((xs.set k v').map enc).flatten).map EV.pv:=by
 have Au:fo+part.length≤sz:=Nat.le_of_ble_eq_true hf
 have hk:k<xs.length:=(List.getElem?_eq_some_iff.1 h).1
 have hl:(enc v).length=sz:=hs v
 have hle:k*sz+sz≤xs.length*sz:=by
  calc k*sz+sz=(k+1)*sz:=(Nat.succ_mul k sz).symm
   _≤xs.length*sz:=Nat.mul_le_mul_right _ hk
 refine⟨by rw[List.length_map,List.length_map,oM hs];omega,?_⟩
 have e:cF ((xs.map enc).flatten) (k*sz+fo) part=cF ((xs.map enc).flatten) (k*sz) (cF (enc v) fo part):=by
  apply List.ext_getElem?
  intro j
  have l1:(cF (enc v) fo part).length=sz:=by rw[qf _ _ _ (by omega),hl]
  rw[dI _ _ _ (by rw[oM hs];omega),dI _ _ _ (by rw[oM hs,l1];omega),l1]
  by_cases h1:k*sz≤j∧j<k*sz+sz
  ·rw[if_pos h1,dI _ _ _ (by omega)]
   by_cases h2:fo≤j-k*sz∧j-k*sz<fo+part.length
   ·rw[if_pos (by omega),if_pos h2];congr 1;omega
   ·rw[if_neg (by omega),if_neg h2]
    have h3:(((xs.map enc).flatten).drop (k*sz))[j-k*sz]? = (enc v)[j-k*sz]? := by rw[B2 hs h,List.getElem?_append,if_pos (by omega)]
    rw[List.getElem?_drop] at h3
    rw[←h3];congr 1;omega
  ·rw[if_neg (by omega),if_neg h1]
 rw[Nat.zero_add,←yK,e,he,Bc hs hk]
theorem rX(hs:Sz enc sz)(xs ys:List α)(b:Nat)(hx:xs.length=n)(h:(xs++ys).length*b≤140737488355328)(hb:Nat.ble 1 b=true) :
  ((xs.map enc).flatten).length=n*sz∧(∀row∈ys.map enc,row.length=sz)∧n+(ys.map enc).length=(xs++ys).length∧(xs.map enc).flatten++(ys.map enc).flatten=((xs++ys).map enc).flatten ∧
   (xs++ys).length*b≤140737488355328∧(xs++ys).length<9223372036854775808 :=
 ⟨by rw[oM hs,hx],x8 hs,by rw[←hx];exact E9,IJ,h,zC h hb⟩
theorem pr(hs:Sz enc sz)(xs ys:List α)(b:Nat)(hx:xs.length=n)(hy:ys.length=m)(h:(xs++ys).length*b≤140737488355328)(hb:Nat.ble 1 b=true) :
  ((xs.map enc).flatten).length=n*sz∧((ys.map enc).flatten).length=m*sz∧n+m=(xs++ys).length∧(xs.map enc).flatten++(ys.map enc).flatten=((xs++ys).map enc).flatten ∧
   (xs++ys).length*b≤140737488355328∧(xs++ys).length<9223372036854775808 :=
 ⟨by rw[oM hs,hx],by rw[oM hs,hy],by rw[←hx,←hy];exact Dp,IJ,h,zC h hb⟩
theorem eM(hs:Sz enc sz)(xs:List α)(h:n=xs.length):n=(xs.map enc).length∧(xs.map enc).flatten=(xs.map enc).flatten∧∀row∈xs.map enc,row.length=sz:=⟨KS h,rfl,x8 hs⟩
theorem Bd(hs:Sz enc sz)(xs:List α)(k:Nat):((xs.map enc).flatten).take (k*sz)=((xs.take k).map enc).flatten:=wu hs xs k
theorem zD(x y:Nat):(if (y:Int)>(x:Int) then (y:Int) else (x:Int))=((max x y:Nat):Int):=R9
theorem Nf(a b:Int):(if b>a then b else a)=max a b:=Sa
theorem Ng(a b:Int):(if b<a then b else a)=min a b:=Sb
theorem lY{f:α→PV}(he:∀a,enc a=[f a])(h:xs[off+k]? = some v):(((xs.map enc).flatten).map EV.pv)[off+k*1]? = some (.pv (f v)):=by
 have:=IH (xs:=xs) (k:=off+k) he h
 rw[Nat.mul_one]
 rw[Nat.zero_add,Nat.mul_one] at this
 exact this
theorem B3(hs:Sz enc 1)(xs:List α)(v:α)(off k:Nat)(h:off+k<xs.length):(off+k*1)+((enc v).map EV.pv).length≤(((xs.map enc).flatten).map EV.pv).length∧cF (((xs.map enc).flatten).map EV.pv) (off+k*1) ((enc v).map EV.pv)=(((xs.set (off+k) v).map enc).flatten).map EV.pv:=by
 have h1:=zB (k:=off+k) (v:=v) hs h
 have h2:=II (k:=off+k) (v:=v) hs h
 rw[Nat.zero_add,Nat.mul_one] at h1 h2
 rw[Nat.mul_one]
 exact⟨h1,h2⟩
theorem LU(xs:List α){b:Int}(h:b=(k:Int))(hk:k≤xs.length):((0:Nat):Int)=((0:Nat):Int)∧b=(((xs.take k).length:Nat):Int)∧(0=0∨0<(xs.take k).length)∧0≤(xs.take k).length∧(xs.take k).length≤xs.length :=
 ⟨rfl,PG h hk,.inl rfl,Nat.zero_le _,KR⟩
theorem Nh{a b:Int}(h1:a=(l:Int))(h2:b=(u:Int))(h3:l=0∨l<u)(h4:l≤u)(h5:u≤n):a=(l:Int)∧b=(u:Int)∧(l=0∨l<u)∧l≤u∧u≤n:=⟨h1,h2,h3,h4,h5⟩
theorem KT{x:Int}{op:BinOp}{q r:PV}(h:x=(k:Int))(hb:eS true op (.int .i64 (k:Int)) q=some r):eS true op (.int .i64 x) q=some r:=by rw[h];exact hb
theorem Ni{x:Int}{op:BinOp}{p r:PV}{kk:IntKind}(h:x=(k:Int))(hb:eS true op p (.int kk (k:Int))=some r):eS true op p (.int kk x)=some r:=by rw[h];exact hb
abbrev cL{α:Type}(enc:α→List PV)(X:List (List α)):List (Option (List PV)):=X.map fun r=>some (r.map enc).flatten
theorem Nj{α:Type}{enc:α→List PV}{sz:Nat}(hs:Sz enc sz){X:List (List α)}{r:List α}{v:α}{j k:Nat}(h1:X[j]? = some r)(h2:r[k]? = some v):(cL enc X)[j]? = some (some (r.map enc).flatten)∧(((r.map enc).flatten).drop (k*sz)).take sz=enc v∧(enc v).length=sz:=by
 refine⟨by simp[cL,h1],?_,hs v⟩
 have:=(qY hs h2).1
 rw[Nat.zero_add,←List.map_drop,←List.map_take] at this
 have h3:=congrArg (List.map fun e=>match e with|EV.pv p=>p|_ => .cd) this
 simp only[List.map_map] at h3
 have hid:((fun e=>match e with|EV.pv p=>p|_=>PV.cd) ∘ EV.pv)=id:=by funext p;rfl
 rw[hid,List.map_id,List.map_id] at h3
 exact h3
theorem LV{α:Type}(enc:α→List PV)(X:List (List α))(r:List α):(cL enc X).length=X.length∧cL enc X++[some (r.map enc).flatten]=cL enc (X++[r]):=by simp[cL]
theorem IL(H K:List (ByteArray×Nat×Nat))(z:Nat):bodE (H++K) z=bodE H z++bodE K z:=by unfold bodE;rw[List.flatMap_append]
theorem zF{z:Nat} : ∀H:List (ByteArray×Nat×Nat),(bodE H z).length=H.length*2
 |[]=>rfl
 |x::H=>by rw[wa,List.length_cons,List.length_cons,zF H,List.length_cons];omega
theorem x9{z:Nat} : ∀(H:List (ByteArray×Nat×Nat)) (k:Nat) (x:ByteArray×Nat×Nat),H[k]? = some x→∃r,(bodE H z).drop (k*2) = .pv (.str x.1) :: .cv x.2.1 x.2.2 z::r
 |[],k,x,h=>by simp at h
 |y::H,0,x,h=>by simp at h;subst h;exact⟨bodE H z,rfl⟩
 |y::H,k+1,x,h=>by
  obtain⟨r,hr⟩:=x9 H k x (by simpa using h)
  exact⟨r,by rw[Nat.succ_mul,wa];exact hr⟩
theorem IM(H:List (ByteArray×Nat×Nat))(x:ByteArray×Nat×Nat)(b:Nat)(h:(H++[x]).length*b≤140737488355328)(hb:Nat.ble 1 b=true) :
  uQ (bodE (H++[x]) 7)∧(bodE H 7).length=H.length*2∧H.length+1=(H++[x]).length∧bodE H 7++[EV.pv (.str x.1),.cv x.2.1 x.2.2 7]=bodE (H++[x]) 7∧(H++[x]).length*b≤140737488355328∧(H++[x]).length<9223372036854775808:=by
 have hb:1≤b:=Nat.le_of_ble_eq_true hb
 have:(H++[x]).length≤(H++[x]).length*b:=Nat.le_mul_of_pos_right _ hb
 exact⟨ss _,zF H,by simp,(IL H [x] 7).symm,h,by omega⟩
theorem KU{H:List (ByteArray×Nat×Nat)}{k j l:Nat}{nm:ByteArray}(h:H[k]? = some (nm,j,l)):((bodE H 7).drop (0+k*2)).take 2=[EV.pv (.str nm),.cv j l 7]∧2=2:=by
 obtain⟨r,hr⟩:=x9 (z:=7) H k _ h
 rw[Nat.zero_add,hr]
 exact⟨rfl,rfl⟩
theorem Fa{H:List (ByteArray×Nat×Nat)}{k j l:Nat}{nm:ByteArray}(h:H[k]? = some (nm,j,l)):(bodE H 7)[(0+k*2)+1]? = some (.cv j l 7):=by
 obtain⟨r,hr⟩:=x9 (z:=7) H k _ h
 have:((bodE H 7).drop (k*2))[1]? = some (.cv j l 7):=by rw[hr];rfl
 rw[List.getElem?_drop] at this
 rw[Nat.zero_add];exact this
theorem LW(a b c:Nat)(H:List (ByteArray×Nat×Nat))(J D:List PV):∀p∈([(a,.fY H 7),(b,.pure J),(c,.pure D)]:List (Nat×SC)),wb p.2:=by
 intro p hp
 rcases List.mem_cons.1 hp with rfl|hp
 ·exact True.intro
 ·rcases List.mem_cons.1 hp with rfl|hp
  ·exact True.intro
  ·rcases List.mem_cons.1 hp with rfl|hp
   ·exact True.intro
   ·cases hp
theorem Gc{α:Type}{enc:α→List PV}{sz:Nat}(hs:Sz enc sz){X:List (List α)}{r:List α}{v:α}{j k:Nat}(h1:X[j]? = some r)(h2:r[k]? = some v)(fo n:Nat)(hf:Nat.ble (fo+n) sz=true) :
  (cL enc X)[j]? = some (some (r.map enc).flatten)∧(((r.map enc).flatten).drop ((k*sz)+fo)).take n=((enc v).drop fo).take n∧(((enc v).drop fo).take n).length=n:=by
 have Au:fo+n≤sz:=Nat.le_of_ble_eq_true hf
 have hl:(enc v).length=sz:=hs v
 refine⟨by simp[cL,h1],?_,by simp[hl];omega⟩
 rw[←List.drop_drop,B2 hs h2,List.drop_append_of_le_length (by omega),List.take_append_of_le_length (by simp[hl];omega)]
theorem sD{α:Type}{enc:α→List PV}{sz:Nat}(hs:Sz enc sz){X:List (List α)}{r:List α}{v:α}{j k:Nat}(h1:X[j]? = some r)(h2:r[k]? = some v)(fo:Nat)(part:List PV)(v':α)(he:cF (enc v) fo part=enc v')(hf:Nat.ble (fo+part.length) sz=true) :
  (cL enc X)[j]? = some (some (r.map enc).flatten)∧((k*sz)+fo)+part.length≤((r.map enc).flatten).length ∧
  cF ((r.map enc).flatten) ((k*sz)+fo) part=((r.set k v').map enc).flatten∧(cL enc X).set j (some ((r.set k v').map enc).flatten)=cL enc (X.set j (r.set k v')):=by
 obtain⟨g1,g2⟩:=IK hs h2 fo part v' he hf
 rw[Nat.zero_add] at g1 g2
 rw[List.length_map,List.length_map] at g1
 refine⟨by simp[cL,h1],g1,?_,by simp[cL,List.map_set]⟩
 rw[←yK] at g2
 have h3:=congrArg (List.map fun e=>match e with|EV.pv p=>p|_=>PV.cd) g2
 simp only[List.map_map] at h3
 have hid:((fun e=>match e with|EV.pv p=>p|_=>PV.cd) ∘ EV.pv)=id:=by funext p;rfl
 rw[hid,List.map_id,List.map_id] at h3
 exact h3
end
end Go.Proofs.YtfjfekodeplcoaaGreat.Sym
