/- Lemmas for the statements of this seat. -/
import Derived.Test.YtcpnocgollpbhaaGreatDoorW24
namespace Go.Proofs.YtcpnocgollpbhaaGreatDoor.Sym
open Go
def az(n:Int):Prop := -9223372036854775808≤n∧n<9223372036854775808
theorem wrap_i64{n:Int}(h:az n):IntKind.i64.wrap n=n:=by
 obtain⟨h1,h2⟩:=h;have e:IntKind.i64.wrap n=(if (true&&decide (n%18446744073709551616≥9223372036854775808))=true then n%18446744073709551616-18446744073709551616 else n%18446744073709551616):=rfl;rw[e];by_cases hn:n%18446744073709551616≥9223372036854775808
 ·simp[hn];omega
 ·simp[hn];omega
theorem wrap_u64(n:Int):IntKind.u64.wrap n=n%18446744073709551616:=rfl
theorem wrap_u32(n:Int):IntKind.u32.wrap n=n%4294967296:=rfl
section
variable {a b:Int} {x y z r:Nat}
theorem xj{a b:ByteArray}(h:a.size+b.size<9223372036854775808):ei true .add (.str a) (.str b)=some (.str (a++b)):=by simp[ei,A7,h]
theorem r9{a b:ByteArray}(h:a=b):decide (a=b)=true:=agq h
theorem vT(h:az (a+b)):ei true .add (.int .i64 a) (.int .i64 b)=some (.int .i64 (a+b)):=by show some (PV.int .i64 (IntKind.i64.wrap (a+b)))=_;rw[wrap_i64 h]
theorem aU(h:az (a-b)):ei true .sub (.int .i64 a) (.int .i64 b)=some (.int .i64 (a-b)):=by show some (PV.int .i64 (IntKind.i64.wrap (a-b)))=_;rw[wrap_i64 h]
theorem o8(h:az (a*b)):ei true .mul (.int .i64 a) (.int .i64 b)=some (.int .i64 (a*b)):=by show some (PV.int .i64 (IntKind.i64.wrap (a*b)))=_;rw[wrap_i64 h]
theorem aL(h:x+y<9223372036854775808):ei true .add (.int .i64 (x:Int)) (.int .i64 (y:Int))=some (.int .i64 ((x+y:Nat):Int)):=by rw[vT (by unfold az;omega)];simp
theorem Lf(h:x*y<9223372036854775808):ei true .mul (.int .i64 (x:Int)) (.int .i64 (y:Int))=some (.int .i64 ((x*y:Nat):Int)):=by rw[o8 (by rw[show (x:Int)*(y:Int)=((x*y:Nat):Int) from by simp];unfold az;omega)];simp
theorem cB(h:y≠0)(h2:x<9223372036854775808):ei true .quo (.int .i64 (x:Int)) (.int .i64 (y:Int))=some (.int .i64 ((x/y:Nat):Int)):=by
 have h1:decide ((y:Int)=0)=false:=by simp[h]
 show(bif decide ((y:Int)=0) then none else some (PV.int .i64 (IntKind.i64.wrap ((x:Int).tdiv (y:Int)))))=_;have h3:(x:Int).tdiv (y:Int)=((x/y:Nat):Int):=by simp
 have h4:x/y≤x:=ahe _ _;rw[h1,h3,wrap_i64 (by generalize x/y=q at *;unfold az;omega)];rfl
theorem Lg(h:y≠0):ei true .rem (.int .i64 (x:Int)) (.int .i64 (y:Int))=some (.int .i64 ((x%y:Nat):Int)):=by
 have h1:decide ((y:Int)=0)=false:=by simp[h]
 show(bif decide ((y:Int)=0) then none else some (PV.int .i64 ((x:Int).tmod (y:Int))))=_;have h3:(x:Int).tmod (y:Int)=((x%y:Nat):Int):=by rw[ajq (by omega)];simp
 rw[h1,h3];rfl
theorem b7{k:IntKind}(hy:y≤64)(h:x*2^y<9223372036854775808):ei true .shl (.int .i64 (x:Int)) (.int k (y:Int))=some (.int .i64 ((x*2^y:Nat):Int)):=by
 have h1:decide ((y:Int)<0)=false:=by simp
 show(bif decide ((y:Int)<0) then none else some (PV.int .i64 (IntKind.i64.wrap ((x:Int)*2^(min y 64)))))=_;have e:(x:Int)*2^y=((x*2^y:Nat):Int):=by simp
 rw[h1,ah0 hy,e,wrap_i64 (by generalize x*2^y=q at *;unfold az;omega)];rfl
theorem dD(h:(x+y)%18446744073709551616=r):ei true .add (.int .u64 (x:Int)) (.int .u64 (y:Int))=some (.int .u64 (r:Int)):=by subst h;show some (PV.int .u64 (((x:Int)+(y:Int))%18446744073709551616))=_;simp
theorem mZ(h:(x*y)%18446744073709551616=r):ei true .mul (.int .u64 (x:Int)) (.int .u64 (y:Int))=some (.int .u64 (r:Int)):=by subst h;show some (PV.int .u64 (((x:Int)*(y:Int))%18446744073709551616))=_;simp
theorem di(h:((x:Int)-(y:Int))%18446744073709551616=(r:Int)):ei true .sub (.int .u64 (x:Int)) (.int .u64 (y:Int))=some (.int .u64 (r:Int)):=by rw[←h];rfl
theorem BQ(hy:y≠0)(h:(x/y)%18446744073709551616=r):ei true .quo (.int .u64 (x:Int)) (.int .u64 (y:Int))=some (.int .u64 (r:Int)):=by
 have h1:decide ((y:Int)=0)=false:=by simp[hy]
 show(bif decide ((y:Int)=0) then none else some (PV.int .u64 (((x:Int).tdiv (y:Int))%18446744073709551616)))=_;have h3:(x:Int).tdiv (y:Int)=((x/y:Nat):Int):=by simp
 rw[h1,h3,←h];simp
theorem BR(hy:y≠0)(h:x%y=r):ei true .rem (.int .u64 (x:Int)) (.int .u64 (y:Int))=some (.int .u64 (r:Int)):=by
 have h1:decide ((y:Int)=0)=false:=by simp[hy]
 show(bif decide ((y:Int)=0) then none else some (PV.int .u64 ((x:Int).tmod (y:Int))))=_;have h3:(x:Int).tmod (y:Int)=((x%y:Nat):Int):=by rw[ajq (by omega)];simp
 rw[h1,h3,←h];simp
theorem nc(h:(x%18446744073709551616) ||| (y%18446744073709551616)=r):ei true .or (.int .u64 (x:Int)) (.int .u64 (y:Int))=some (.int .u64 (r:Int)):=by
 show some (PV.int .u64 (((BitVec.ofInt 64 (x:Int) ||| BitVec.ofInt 64 (y:Int)).toNat:Int)%18446744073709551616))=_;have h2:(BitVec.ofInt 64 (x:Int) ||| BitVec.ofInt 64 (y:Int)).toNat=r:=by rw[←h];simp[BitVec.toNat_or]
 have h3:=(BitVec.ofInt 64 (x:Int) ||| BitVec.ofInt 64 (y:Int)).isLt;rw[h2] at h3 ⊢
 congr 2;omega
theorem iP{k:IntKind}(h:(x*2^(min y 64))%18446744073709551616=r):ei true .shl (.int .u64 (x:Int)) (.int k (y:Int))=some (.int .u64 (r:Int)):=by
 have h1:decide ((y:Int)<0)=false:=by simp
 show(bif decide ((y:Int)<0) then none else some (PV.int .u64 (((x:Int)*2^(min y 64))%18446744073709551616)))=_;rw[h1,←h];simp
theorem cN{k:IntKind}(h:x/2^(min y 64)=r):ei true .shr (.int .u64 (x:Int)) (.int k (y:Int))=some (.int .u64 (r:Int)):=by
 have h1:decide ((y:Int)<0)=false:=by simp
 show(bif decide ((y:Int)<0) then none else some (PV.int .u64 ((x:Int).fdiv (2^(min y 64)))))=_;rw[h1,←h,ajr _ (by exact_mod_cast ago _)];simp
theorem uy(h:(x%4294967296) ||| (y%4294967296)=r):ei true .or (.int .u32 (x:Int)) (.int .u32 (y:Int))=some (.int .u32 (r:Int)):=by
 show some (PV.int .u32 (((BitVec.ofInt 32 (x:Int) ||| BitVec.ofInt 32 (y:Int)).toNat:Int)%4294967296))=_;have h2:(BitVec.ofInt 32 (x:Int) ||| BitVec.ofInt 32 (y:Int)).toNat=r:=by rw[←h];simp[BitVec.toNat_or]
 have h3:=(BitVec.ofInt 32 (x:Int) ||| BitVec.ofInt 32 (y:Int)).isLt;rw[h2] at h3 ⊢
 congr 2;omega
theorem fX(h:(x%4294967296) &&& (y%4294967296)=r):ei true .and (.int .u32 (x:Int)) (.int .u32 (y:Int))=some (.int .u32 (r:Int)):=by
 show some (PV.int .u32 (((BitVec.ofInt 32 (x:Int) &&& BitVec.ofInt 32 (y:Int)).toNat:Int)%4294967296))=_;have h2:(BitVec.ofInt 32 (x:Int) &&& BitVec.ofInt 32 (y:Int)).toNat=r:=by rw[←h];simp[BitVec.toNat_and]
 have h3:=(BitVec.ofInt 32 (x:Int) &&& BitVec.ofInt 32 (y:Int)).isLt;rw[h2] at h3 ⊢
 congr 2;omega
theorem BS{k:IntKind}(h:(x*2^(min y 32))%4294967296=r):ei true .shl (.int .u32 (x:Int)) (.int k (y:Int))=some (.int .u32 (r:Int)):=by
 have h1:decide ((y:Int)<0)=false:=by simp
 show(bif decide ((y:Int)<0) then none else some (PV.int .u32 (((x:Int)*2^(min y 32))%4294967296)))=_;rw[h1,←h];simp
theorem lk{k:IntKind}(h:x/2^(min y 32)=r):ei true .shr (.int .u32 (x:Int)) (.int k (y:Int))=some (.int .u32 (r:Int)):=by
 have h1:decide ((y:Int)<0)=false:=by simp
 show(bif decide ((y:Int)<0) then none else some (PV.int .u32 ((x:Int).fdiv (2^(min y 32)))))=_;rw[h1,←h,ajr _ (by exact_mod_cast ago _)];simp
theorem JS(h:az (-a)):D4 .neg (.int .i64 a)=some (.int .i64 (-a)):=by show some (PV.int .i64 (IntKind.i64.wrap (0-a)))=_;rw[Int.zero_sub,wrap_i64 h]
theorem BT(h:(0-(x:Int))%18446744073709551616=(r:Int)):D4 .neg (.int .u64 (x:Int))=some (.int .u64 (r:Int)):=by rw[←h];rfl
theorem FD(h:a%18446744073709551616=(r:Int)):IntKind.u64.wrap a=(r:Int):=h
theorem cC(h:x%4294967296=r):IntKind.u32.wrap (x:Int)=(r:Int):=by rw[←h];simp[wrap_u32]
theorem FF(h:x%256=r):IntKind.u8.wrap (x:Int)=(r:Int):=by
 have e:∀n:Int,IntKind.u8.wrap n=n%256:=fun n=>rfl
 rw[e,←h];simp
theorem AE(h:x<9223372036854775808):IntKind.i64.wrap (x:Int)=(x:Int):=wrap_i64 (by unfold az;omega)
theorem nN(v:UInt32):IntKind.u64.wrap (v.toNat:Int)=(v.toNat:Int):=by have:=v.toNat_lt;rw[wrap_u64];omega
theorem W6(v:UInt32):IntKind.i64.wrap (v.toNat:Int)=(v.toNat:Int):=by have:=v.toNat_lt;exact wrap_i64 (by unfold az;omega)
theorem br(h:a<b):decide (a<b)=true:=agq h
theorem bu(h:b≤a):decide (a<b)=false:=ags (ajA.2 h)
theorem bN(h:a≤b):decide (a≤b)=true:=agq h
theorem fY(h:b<a):decide (a≤b)=false:=ags (Int.not_le.2 h)
theorem bQ(h:a=b):(a==b)=true:=by simp[h]
theorem bA(h:a≠b):(a==b)=false:=by simp[h]
theorem gG(h:a≠b):(a != b)=true:=by simp[h]
theorem cR(h:a=b):(a != b)=false:=by simp[h]
theorem aj(h:x<y):decide ((x:Int)<(y:Int))=true:=agq (Int.ofNat_lt.2 h)
theorem aq(h:y≤x):decide ((x:Int)<(y:Int))=false:=bu (aj8.2 h)
theorem cH(h:x≤y):decide ((x:Int)≤(y:Int))=true:=agq (aj8.2 h)
theorem bh(h:y<x):decide ((x:Int)≤(y:Int))=false:=fY (Int.ofNat_lt.2 h)
theorem aJ(h:x=y):((x:Int)==(y:Int))=true:=by simp[h]
theorem ax(h:x≠y):((x:Int)==(y:Int))=false:=bA (by omega)
theorem cZ(h:x≠y):((x:Int) != (y:Int))=true:=gG (by omega)
theorem bX(h:x=y):((x:Int) != (y:Int))=false:=by simp[h]
theorem cA{p:Bool}(h:p=false):(!p)=true:=by simp[h]
theorem aM{p:Bool}(h:p=true):(!p)=false:=by simp[h]
theorem pY{p q:Bool}(h:p=q):(p==q)=true:=by simp[h]
theorem vk{p q:Bool}(h:p≠q):(p==q)=false:=by simp[h]
theorem Z8:(if (y:Int)>(x:Int) then (y:Int) else (x:Int))=((max x y:Nat):Int):=by split<;>omega
theorem Z9:(if b>a then b else a)=max a b:=by split<;>omega
end
section
variable {α:Type} {enc:α→List PV} {xs ys:List α} {k l u n m sz off:Nat} {v d:α}
def Sz(enc:α→List PV)(sz:Nat):Prop:=∀a,(enc a).length=sz
theorem aW:Sz ah 1:=fun _=>rfl
theorem BU:Sz gF 1:=fun _=>rfl
theorem ON:Sz kf 1:=fun _=>rfl
theorem qM(enc:α→List PV):Sz (db enc) 1:=fun _=>rfl
theorem W7(h:xs[k]? = some v):(xs.map enc)[k]? = some (enc v):=by simp[h]
theorem pZ(hs:Sz enc sz):∀xs:List α,((xs.map enc).flatten).length=xs.length*sz
 |[]=>by simp
 |x::xs=>by simp[pZ hs xs,hs x,Nat.add_mul,Nat.add_comm]
theorem rh(hs:Sz enc sz):∀(xs:List α) (k:Nat),((xs.map enc).flatten).drop (k*sz)=((xs.drop k).map enc).flatten
 |[],k=>by simp
 |x::xs,0=>by simp
 |x::xs,k+1=>by rw[List.drop_succ_cons,←rh hs xs k,agD,ahm,ahS,aiW,←ajx,List.drop_left' (hs x)]
theorem uz(hs:Sz enc sz):∀(xs:List α) (k:Nat),((xs.map enc).flatten).take (k*sz)=((xs.take k).map enc).flatten
 |[],k=>by simp
 |x::xs,0=>by simp
 |x::xs,k+1=>by
  have h:(k+1)*sz=(enc x).length+k*sz:=by rw[hs x,ahS,aiW]
  rw[List.take_succ_cons,agD,agD,ahm,ahm,←uz hs xs k,h,List.take_length_add_append]
theorem OO{f:α→PV}(he:∀a,enc a=[f a])(h:xs[k]? = some v):(((xs.map enc).flatten).map EV.pv)[0+k*1]? = some (.pv (f v)):=by
 have hs:Sz enc 1:=fun a=>by rw[he];rfl
 have h1:=rh hs xs k;have hk:k<xs.length:=(afQ.1 h).1;have hv:xs[k]=v:=by have:=afO hk;rw[h] at this;injection this with this;exact this.symm
 have h2:((xs.map enc).flatten)[k*1]? = some (f v):=by
  have:(((xs.map enc).flatten).drop (k*1))[0]? = some (f v):=by rw[h1,ahp hk,hv];simp[he]
  rw[agS] at this;simpa using this
 rw[agQ,afT,h2];rfl
theorem Up(hs:Sz enc sz)(h:xs[k]? = some v):((((xs.map enc).flatten).map EV.pv).drop (0+k*sz)).take sz=(enc v).map EV.pv:=by
 have hk:k<xs.length:=(afQ.1 h).1;have hv:xs[k]=v:=by have:=afO hk;rw[h] at this;injection this with this;exact this.symm
 rw[agQ,←ajg,←ahP,rh hs,ahp hk,hv,agD,ahm,List.take_left' (hs v)]
theorem MJ(hs:Sz enc sz)(h:k<xs.length):eP ((xs.map enc).flatten) (k*sz) (enc v)=((xs.set k v).map enc).flatten:=by unfold eP;have h1:(enc v).length=sz:=hs v;rw[h1,uz hs,show k*sz+sz=(k+1)*sz from(ahS k sz).symm,rh hs,List.set_eq_take_append_cons_drop,ag9 h];simp
theorem OP(hs:Sz enc sz)(h:k<xs.length):eP (((xs.map enc).flatten).map EV.pv) (0+k*sz) ((enc v).map EV.pv)=(((xs.set k v).map enc).flatten).map EV.pv:=by rw[←MJ hs h,agQ];simp[eP,List.map_drop,List.map_take]
theorem BV(hs:Sz enc sz)(h:k<xs.length):(0+k*sz)+((enc v).map EV.pv).length≤(((xs.map enc).flatten).map EV.pv).length:=by
 rw[agQ,afW,afW,hs v,pZ hs]
 calc k*sz+sz=(k+1)*sz:=(ahS k sz).symm
  _≤xs.length*sz:=afU _ h
theorem se(hs:Sz enc sz):∀row∈xs.map enc,row.length=sz:=by intro row h;obtain⟨a,_,rfl⟩:=agI.1 h;exact hs a
theorem OQ:(xs.map enc).flatten++(ys.map enc).flatten=((xs++ys).map enc).flatten:=by simp
theorem JT:xs.length+(ys.map enc).length=(xs++ys).length:=by simp
theorem HX:xs.length+ys.length=(xs++ys).length:=by simp
theorem Uq:((xs.map enc).take u).drop l=((xs.take u).drop l).map enc:=by simp[List.map_drop,List.map_take]
theorem Rw:((xs.map enc).take u).drop 0=(xs.take u).map enc:=by simp[List.map_take]
theorem S3(h:k≤xs.length):k≤(xs.map enc).length:=by simpa using h
theorem W8{b:Int}(h:b=(k:Int))(hk:k≤xs.length):b=(((xs.take k).length:Nat):Int):=by rw[h,agh];omega
theorem Rx:(xs.take k).length≤xs.length:=by rw[agh];omega
theorem xk{b:Nat}(h:n*b≤140737488355328)(hb:Nat.ble 1 b=true):n<9223372036854775808:=by have h1:1≤b:=afS hb;have h2:n*1≤n*b:=aga n h1;omega
theorem MK{b:Nat}(h:b*n≤140737488355328)(hb:Nat.ble 1 b=true):n<9223372036854775808:=xk (by rw[agR];exact h) hb
theorem Ur{z:List PV}(h:z=enc d):(List.replicate m z).flatten=((List.replicate m d).map enc).flatten:=by simp[h]
theorem Ry(h:n=xs.length):n=(xs.map enc).length:=by simpa using h
theorem ak(enc:α→List PV)(xs:List α):((xs.map enc).length:Int)=(xs.length:Int):=by simp
theorem bm(enc:α→List PV){i:Int}(hi:i=(k:Int))(h:xs[k]? = some v):i=(k:Int)∧(xs.map enc)[k]? = some (enc v)∧(enc v).length=(enc v).length:=⟨hi,W7 h,rfl⟩
theorem oB(hs:Sz enc sz)(X:List α):(X.map enc).flatten=(X.map enc).flatten∧(X.map enc).length=(X.map enc).length∧∀row∈X.map enc,row.length=sz:=⟨rfl,rfl,se hs⟩
theorem xl(hs:Sz enc sz)(h:xs[k]? = some v):((((xs.map enc).flatten).map EV.pv).drop (0+k*sz)).take sz=(enc v).map EV.pv∧(enc v).length=(enc v).length:=⟨Up hs h,rfl⟩
theorem gr{f:α→PV}(he:∀a,enc a=[f a])(h:xs[k]? = some v):(((xs.map enc).flatten).map EV.pv)[0+k*1]? = some (.pv (f v)):=OO he h
theorem tH(enc:α→List PV)(d:α){n:Int}(b m:Nat)(hm:n=(m:Int))(h:b*m≤140737488355328)(hb:Nat.ble 1 b=true) :
  n=(m:Int)∧n=(m:Int)∧b*m≤140737488355328∧m<9223372036854775808∧(List.replicate m (enc d)).flatten=((List.replicate m d).map enc).flatten:=⟨hm,hm,h,MK h hb,Ur rfl⟩
theorem Rz(hs:Sz enc sz)(xs:List α){a b:Int}(h1:a=(l:Int))(h2:b=(u:Int))(h3:l≤u)(h4:u≤xs.length) :
  a=(l:Int)∧b=(u:Int)∧l≤u∧u≤(xs.map enc).length∧((xs.map enc).take u).drop l=((xs.take u).drop l).map enc∧∀row∈((xs.take u).drop l).map enc,row.length=sz :=
 ⟨h1,h2,h3,S3 h4,Uq,se hs⟩
theorem fV(hs:Sz enc sz)(xs:List α){b:Int}(h2:b=(u:Int))(h4:u≤xs.length) :
  ((0:Nat):Int)=((0:Nat):Int)∧b=(u:Int)∧0≤u∧u≤(xs.map enc).length∧((xs.map enc).take u).drop 0=(xs.take u).map enc∧∀row∈(xs.take u).map enc,row.length=sz :=
 ⟨rfl,h2,ago _,S3 h4,Rw,se hs⟩
theorem mQ(hs:Sz enc sz)(xs:List α){a:Int}(h1:a=(l:Int))(h3:l≤xs.length) :
  a=(l:Int)∧((xs.map enc).length:Int)=(xs.length:Int)∧l≤xs.length∧xs.length≤(xs.map enc).length∧((xs.map enc).take xs.length).drop l=(xs.drop l).map enc∧∀row∈(xs.drop l).map enc,row.length=sz :=
 ⟨h1,by simp,h3,by simp,by rw[List.take_of_length_le (by simp),List.map_drop],se hs⟩
theorem gV(hs:Sz enc sz)(xs:List α)(v:α)(h:k<xs.length):(0+k*sz)+((enc v).map EV.pv).length≤(((xs.map enc).flatten).map EV.pv).length∧eP (((xs.map enc).flatten).map EV.pv) (0+k*sz) ((enc v).map EV.pv)=(((xs.set k v).map enc).flatten).map EV.pv :=
 ⟨BV hs h,OP hs h⟩
theorem kE(hs:Sz enc sz)(xs ys:List α)(b:Nat)(hx:xs.length=n)(h:(xs++ys).length*b≤140737488355328)(hb:Nat.ble 1 b=true) :
  ((xs.map enc).flatten).length=n*sz∧(∀row∈ys.map enc,row.length=sz)∧n+(ys.map enc).length=(xs++ys).length∧(xs.map enc).flatten++(ys.map enc).flatten=((xs++ys).map enc).flatten ∧
   (xs++ys).length*b≤140737488355328∧(xs++ys).length<9223372036854775808 :=
 ⟨by rw[pZ hs,hx],se hs,by rw[←hx];exact JT,OQ,h,xk h hb⟩
theorem iQ(hs:Sz enc sz)(xs ys:List α)(b:Nat)(hx:xs.length=n)(hy:ys.length=m)(h:(xs++ys).length*b≤140737488355328)(hb:Nat.ble 1 b=true) :
  ((xs.map enc).flatten).length=n*sz∧((ys.map enc).flatten).length=m*sz∧n+m=(xs++ys).length∧(xs.map enc).flatten++(ys.map enc).flatten=((xs++ys).map enc).flatten ∧
   (xs++ys).length*b≤140737488355328∧(xs++ys).length<9223372036854775808 :=
 ⟨by rw[pZ hs,hx],by rw[pZ hs,hy],by rw[←hx,←hy];exact HX,OQ,h,xk h hb⟩
theorem Ut(hs:Sz enc sz)(xs:List α)(d:α)(b m:Nat){q:Int}(hx:xs.length=n)(hm:q=(m:Int))(h:(xs++List.replicate m d).length*b≤140737488355328)(hb:Nat.ble 1 b=true) :
  ((xs.map enc).flatten).length=n*sz∧n≤(xs++List.replicate m d).length∧q=(((xs++List.replicate m d).length-n:Nat):Int)∧(xs.map enc).flatten++(List.replicate ((xs++List.replicate m d).length-n) (enc d)).flatten=((xs++List.replicate m d).map enc).flatten ∧
   (xs++List.replicate m d).length*b≤140737488355328∧(xs++List.replicate m d).length<9223372036854775808:=by
 have e:(xs++List.replicate m d).length-n=m:=by rw[agB,ahb];omega
 refine⟨by rw[pZ hs,hx],by rw[agB];omega,by rw[e];exact hm,?_,h,xk h hb⟩;rw[e,agU,List.flatten_append,ajt]
theorem cJ(hs:Sz enc sz)(xs:List α)(h:n=xs.length):n=(xs.map enc).length∧(xs.map enc).flatten=(xs.map enc).flatten∧∀row∈xs.map enc,row.length=sz:=⟨Ry h,rfl,se hs⟩
theorem xm(hs:Sz enc sz)(xs:List α)(k:Nat):((xs.map enc).flatten).take (k*sz)=((xs.take k).map enc).flatten:=uz hs xs k
theorem S4(hs:Sz enc sz)(xs ys:List α)(h:min ys.length n=k)(hk:k≤xs.length):(∀row∈ys.map enc,row.length=sz)∧min (ys.map enc).length n=k∧0+k*sz≤((xs.map enc).flatten).length ∧
  eP ((xs.map enc).flatten) 0 (((ys.map enc).flatten).take (k*sz))=((ys.take k++xs.drop k).map enc).flatten:=by
 refine⟨se hs,by simpa using h,by rw[pZ hs,Nat.zero_add];exact afU _ hk,?_⟩;have hy:k≤ys.length:=by omega
 rw[uz hs];unfold eP;rw[List.take_zero,ahZ,agQ,pZ hs,agh,ah0 hy,rh hs];simp
theorem nd(x y:Nat):(if (y:Int)>(x:Int) then (y:Int) else (x:Int))=((max x y:Nat):Int):=Z8
theorem OR(a b:Int):(if b>a then b else a)=max a b:=Z9
theorem vV{f:α→PV}(he:∀a,enc a=[f a])(h:xs[off+k]? = some v):(((xs.map enc).flatten).map EV.pv)[off+k*1]? = some (.pv (f v)):=by have:=OO (xs:=xs) (k:=off+k) he h;rw[ai6];rw[agQ,ai6] at this;exact this
theorem OS(hs:Sz enc 1)(xs:List α)(v:α)(off k:Nat)(h:off+k<xs.length):(off+k*1)+((enc v).map EV.pv).length≤(((xs.map enc).flatten).map EV.pv).length∧eP (((xs.map enc).flatten).map EV.pv) (off+k*1) ((enc v).map EV.pv)=(((xs.set (off+k) v).map enc).flatten).map EV.pv:=by have h1:=BV (k:=off+k) (v:=v) hs h;have h2:=OP (k:=off+k) (v:=v) hs h;rw[agQ,ai6] at h1 h2;rw[ai6];exact⟨h1,h2⟩
theorem Lh(xs:List α){b:Int}(h:b=(k:Int))(hk:k≤xs.length):((0:Nat):Int)=((0:Nat):Int)∧b=(((xs.take k).length:Nat):Int)∧(0=0∨0<(xs.take k).length)∧0≤(xs.take k).length∧(xs.take k).length≤xs.length :=
 ⟨rfl,W8 h hk,.inl rfl,ago _,Rx⟩
theorem W9{a b:Int}(h1:a=(l:Int))(h2:b=(u:Int))(h3:l=0∨l<u)(h4:l≤u)(h5:u≤n):a=(l:Int)∧b=(u:Int)∧(l=0∨l<u)∧l≤u∧u≤n:=⟨h1,h2,h3,h4,h5⟩
theorem ML{x:Int}{op:BinOp}{q r:PV}(h:x=(k:Int))(hb:ei true op (.int .i64 (k:Int)) q=some r):ei true op (.int .i64 x) q=some r:=by rw[h];exact hb
theorem RA{x:Int}{op:BinOp}{p r:PV}{kk:IntKind}(h:x=(k:Int))(hb:ei true op p (.int kk (k:Int))=some r):ei true op p (.int kk x)=some r:=by rw[h];exact hb
end
end Go.Proofs.YtcpnocgollpbhaaGreatDoor.Sym
