/- Lemmas for the statements of this seat. -/
import Derived.Test.YtllmkadmohkbfaaGreatDoorWTypes
namespace Go.Proofs.YtllmkadmohkbfaaGreatDoor.Sym
open Go
def aw(n:Int):Prop := -9223372036854775808≤n∧n<9223372036854775808
theorem wrap_i64{n:Int}(h:aw n):IntKind.i64.wrap n=n:=by
 obtain⟨h1,h2⟩:=h
 have e:IntKind.i64.wrap n=(if (true&&decide (n%18446744073709551616≥9223372036854775808))=true then n%18446744073709551616-18446744073709551616 else n%18446744073709551616):=rfl
 rw[e]
 by_cases hn:n%18446744073709551616≥9223372036854775808
 ·simp[hn];omega
 ·simp[hn];omega
theorem wrap_u64(n:Int):IntKind.u64.wrap n=n%18446744073709551616:=rfl
theorem wrap_u32(n:Int):IntKind.u32.wrap n=n%4294967296:=rfl
section
variable {a b:Int} {x y z r:Nat}
theorem C0{a b:ByteArray}(h:a.size+b.size<9223372036854775808):jm true .add (.str a) (.str b)=some (.str (a++b)):=by
 simp[jm,Gb,h]
theorem ia{a b:ByteArray}(h:a=b):decide (a=b)=true:=decide_eq_true h
theorem xi(h:aw (a+b)):jm true .add (.int .i64 a) (.int .i64 b)=some (.int .i64 (a+b)):=by
 show some (PV.int .i64 (IntKind.i64.wrap (a+b)))=_
 rw[wrap_i64 h]
theorem aX(h:aw (a-b)):jm true .sub (.int .i64 a) (.int .i64 b)=some (.int .i64 (a-b)):=by
 show some (PV.int .i64 (IntKind.i64.wrap (a-b)))=_
 rw[wrap_i64 h]
theorem mR(h:aw (a*b)):jm true .mul (.int .i64 a) (.int .i64 b)=some (.int .i64 (a*b)):=by
 show some (PV.int .i64 (IntKind.i64.wrap (a*b)))=_
 rw[wrap_i64 h]
theorem aR(h:x+y<9223372036854775808):jm true .add (.int .i64 (x:Int)) (.int .i64 (y:Int))=some (.int .i64 ((x+y:Nat):Int)):=by
 rw[xi (by unfold aw;omega)];simp
theorem Oi(h:x*y<9223372036854775808):jm true .mul (.int .i64 (x:Int)) (.int .i64 (y:Int))=some (.int .i64 ((x*y:Nat):Int)):=by
 rw[mR (by rw[show (x:Int)*(y:Int)=((x*y:Nat):Int) from by simp];unfold aw;omega)];simp
theorem C1(h:y≠0)(h2:x<9223372036854775808):jm true .quo (.int .i64 (x:Int)) (.int .i64 (y:Int))=some (.int .i64 ((x/y:Nat):Int)):=by
 have h1:decide ((y:Int)=0)=false:=by simp[h]
 show(bif decide ((y:Int)=0) then none else some (PV.int .i64 (IntKind.i64.wrap ((x:Int).tdiv (y:Int)))))=_
 have h3:(x:Int).tdiv (y:Int)=((x/y:Nat):Int):=by simp
 have h4:x/y≤x:=Nat.div_le_self _ _
 rw[h1,h3,wrap_i64 (by generalize x/y=q at *;unfold aw;omega)];rfl
theorem Oj(h:y≠0):jm true .rem (.int .i64 (x:Int)) (.int .i64 (y:Int))=some (.int .i64 ((x%y:Nat):Int)):=by
 have h1:decide ((y:Int)=0)=false:=by simp[h]
 show(bif decide ((y:Int)=0) then none else some (PV.int .i64 ((x:Int).tmod (y:Int))))=_
 have h3:(x:Int).tmod (y:Int)=((x%y:Nat):Int):=by rw[Int.tmod_eq_emod_of_nonneg (by omega)];simp
 rw[h1,h3];rfl
theorem uS(h:y≠0):jm true .rem (.int .u8 (x:Int)) (.int .u8 (y:Int))=some (.int .u8 ((x%y:Nat):Int)):=by
 have h1:decide ((y:Int)=0)=false:=by simp[h]
 show(bif decide ((y:Int)=0) then none else some (PV.int .u8 ((x:Int).tmod (y:Int))))=_
 have h3:(x:Int).tmod (y:Int)=((x%y:Nat):Int):=by rw[Int.tmod_eq_emod_of_nonneg (by omega)];simp
 rw[h1,h3];rfl
theorem gU{k:IntKind}(hy:y≤64)(h:x*2^y<9223372036854775808):jm true .shl (.int .i64 (x:Int)) (.int k (y:Int))=some (.int .i64 ((x*2^y:Nat):Int)):=by
 have h1:decide ((y:Int)<0)=false:=by simp
 show(bif decide ((y:Int)<0) then none else some (PV.int .i64 (IntKind.i64.wrap ((x:Int)*2^(min y 64)))))=_
 have e:(x:Int)*2^y=((x*2^y:Nat):Int):=by simp
 rw[h1,Nat.min_eq_left hy,e,wrap_i64 (by generalize x*2^y=q at *;unfold aw;omega)];rfl
theorem iP(h:(x+y)%18446744073709551616=r):jm true .add (.int .u64 (x:Int)) (.int .u64 (y:Int))=some (.int .u64 (r:Int)):=by
 subst h;show some (PV.int .u64 (((x:Int)+(y:Int))%18446744073709551616))=_;simp
theorem sY(h:(x*y)%18446744073709551616=r):jm true .mul (.int .u64 (x:Int)) (.int .u64 (y:Int))=some (.int .u64 (r:Int)):=by
 subst h;show some (PV.int .u64 (((x:Int)*(y:Int))%18446744073709551616))=_;simp
theorem ir(h:((x:Int)-(y:Int))%18446744073709551616=(r:Int)):jm true .sub (.int .u64 (x:Int)) (.int .u64 (y:Int))=some (.int .u64 (r:Int)):=by
 rw[←h];rfl
theorem GV(hy:y≠0)(h:(x/y)%18446744073709551616=r):jm true .quo (.int .u64 (x:Int)) (.int .u64 (y:Int))=some (.int .u64 (r:Int)):=by
 have h1:decide ((y:Int)=0)=false:=by simp[hy]
 show(bif decide ((y:Int)=0) then none else some (PV.int .u64 (((x:Int).tdiv (y:Int))%18446744073709551616)))=_
 have h3:(x:Int).tdiv (y:Int)=((x/y:Nat):Int):=by simp
 rw[h1,h3,←h];simp
theorem GW(hy:y≠0)(h:x%y=r):jm true .rem (.int .u64 (x:Int)) (.int .u64 (y:Int))=some (.int .u64 (r:Int)):=by
 have h1:decide ((y:Int)=0)=false:=by simp[hy]
 show(bif decide ((y:Int)=0) then none else some (PV.int .u64 ((x:Int).tmod (y:Int))))=_
 have h3:(x:Int).tmod (y:Int)=((x%y:Nat):Int):=by rw[Int.tmod_eq_emod_of_nonneg (by omega)];simp
 rw[h1,h3,←h];simp
theorem sZ(h:(x%18446744073709551616) ||| (y%18446744073709551616)=r):jm true .or (.int .u64 (x:Int)) (.int .u64 (y:Int))=some (.int .u64 (r:Int)):=by
 show some (PV.int .u64 (((BitVec.ofInt 64 (x:Int) ||| BitVec.ofInt 64 (y:Int)).toNat:Int)%18446744073709551616))=_
 have h2:(BitVec.ofInt 64 (x:Int) ||| BitVec.ofInt 64 (y:Int)).toNat=r:=by
  rw[←h];simp[BitVec.toNat_or]
 have h3:=(BitVec.ofInt 64 (x:Int) ||| BitVec.ofInt 64 (y:Int)).isLt
 rw[h2] at h3 ⊢
 congr 2;omega
theorem nG{k:IntKind}(h:(x*2^(min y 64))%18446744073709551616=r):jm true .shl (.int .u64 (x:Int)) (.int k (y:Int))=some (.int .u64 (r:Int)):=by
 have h1:decide ((y:Int)<0)=false:=by simp
 show(bif decide ((y:Int)<0) then none else some (PV.int .u64 (((x:Int)*2^(min y 64))%18446744073709551616)))=_
 rw[h1,←h];simp
theorem gE{k:IntKind}(h:x/2^(min y 64)=r):jm true .shr (.int .u64 (x:Int)) (.int k (y:Int))=some (.int .u64 (r:Int)):=by
 have h1:decide ((y:Int)<0)=false:=by simp
 show(bif decide ((y:Int)<0) then none else some (PV.int .u64 ((x:Int).fdiv (2^(min y 64)))))=_
 rw[h1,←h,Int.fdiv_eq_ediv_of_nonneg _ (by exact_mod_cast Nat.zero_le _)];simp
theorem AP(h:(x%4294967296) ||| (y%4294967296)=r):jm true .or (.int .u32 (x:Int)) (.int .u32 (y:Int))=some (.int .u32 (r:Int)):=by
 show some (PV.int .u32 (((BitVec.ofInt 32 (x:Int) ||| BitVec.ofInt 32 (y:Int)).toNat:Int)%4294967296))=_
 have h2:(BitVec.ofInt 32 (x:Int) ||| BitVec.ofInt 32 (y:Int)).toNat=r:=by
  rw[←h];simp[BitVec.toNat_or]
 have h3:=(BitVec.ofInt 32 (x:Int) ||| BitVec.ofInt 32 (y:Int)).isLt
 rw[h2] at h3 ⊢
 congr 2;omega
theorem lH(h:(x%4294967296) &&& (y%4294967296)=r):jm true .and (.int .u32 (x:Int)) (.int .u32 (y:Int))=some (.int .u32 (r:Int)):=by
 show some (PV.int .u32 (((BitVec.ofInt 32 (x:Int) &&& BitVec.ofInt 32 (y:Int)).toNat:Int)%4294967296))=_
 have h2:(BitVec.ofInt 32 (x:Int) &&& BitVec.ofInt 32 (y:Int)).toNat=r:=by
  rw[←h];simp[BitVec.toNat_and]
 have h3:=(BitVec.ofInt 32 (x:Int) &&& BitVec.ofInt 32 (y:Int)).isLt
 rw[h2] at h3 ⊢
 congr 2;omega
theorem GX{k:IntKind}(h:(x*2^(min y 32))%4294967296=r):jm true .shl (.int .u32 (x:Int)) (.int k (y:Int))=some (.int .u32 (r:Int)):=by
 have h1:decide ((y:Int)<0)=false:=by simp
 show(bif decide ((y:Int)<0) then none else some (PV.int .u32 (((x:Int)*2^(min y 32))%4294967296)))=_
 rw[h1,←h];simp
theorem q9{k:IntKind}(h:x/2^(min y 32)=r):jm true .shr (.int .u32 (x:Int)) (.int k (y:Int))=some (.int .u32 (r:Int)):=by
 have h1:decide ((y:Int)<0)=false:=by simp
 show(bif decide ((y:Int)<0) then none else some (PV.int .u32 ((x:Int).fdiv (2^(min y 32)))))=_
 rw[h1,←h,Int.fdiv_eq_ediv_of_nonneg _ (by exact_mod_cast Nat.zero_le _)];simp
theorem oI(h:aw (-a)):IK .neg (.int .i64 a)=some (.int .i64 (-a)):=by
 show some (PV.int .i64 (IntKind.i64.wrap (0-a)))=_
 rw[Int.zero_sub,wrap_i64 h]
theorem GY(h:(0-(x:Int))%18446744073709551616=(r:Int)):IK .neg (.int .u64 (x:Int))=some (.int .u64 (r:Int)):=by
 rw[←h];rfl
theorem JQ(h:a%18446744073709551616=(r:Int)):IntKind.u64.wrap a=(r:Int):=h
theorem gd(h:x%4294967296=r):IntKind.u32.wrap (x:Int)=(r:Int):=by rw[←h];simp[wrap_u32]
theorem JR(h:x%256=r):IntKind.u8.wrap (x:Int)=(r:Int):=by
 have e:∀n:Int,IntKind.u8.wrap n=n%256:=fun n=>rfl
 rw[e,←h];simp
theorem tF(h:x<9223372036854775808):IntKind.i64.wrap (x:Int)=(x:Int):=wrap_i64 (by unfold aw;omega)
theorem tM(v:UInt32):IntKind.u64.wrap (v.toNat:Int)=(v.toNat:Int):=by
 have:=v.toNat_lt;rw[wrap_u64];omega
theorem Xf(v:UInt32):IntKind.i64.wrap (v.toNat:Int)=(v.toNat:Int):=by
 have:=v.toNat_lt;exact wrap_i64 (by unfold aw;omega)
theorem dJ(h:a<b):decide (a<b)=true:=decide_eq_true h
theorem bQ(h:b≤a):decide (a<b)=false:=decide_eq_false (Int.not_lt.2 h)
theorem jv(h:a≤b):decide (a≤b)=true:=decide_eq_true h
theorem kL(h:b<a):decide (a≤b)=false:=decide_eq_false (Int.not_le.2 h)
theorem aF(h:a=b):(a==b)=true:=by simp[h]
theorem aN(h:a≠b):(a==b)=false:=by simp[h]
theorem dq(h:a≠b):(a != b)=true:=by simp[h]
theorem bZ(h:a=b):(a != b)=false:=by simp[h]
theorem ak(h:x<y):decide ((x:Int)<(y:Int))=true:=decide_eq_true (Int.ofNat_lt.2 h)
theorem ax(h:y≤x):decide ((x:Int)<(y:Int))=false:=bQ (Int.ofNat_le.2 h)
theorem cP(h:x≤y):decide ((x:Int)≤(y:Int))=true:=decide_eq_true (Int.ofNat_le.2 h)
theorem cN(h:y<x):decide ((x:Int)≤(y:Int))=false:=kL (Int.ofNat_lt.2 h)
theorem aL(h:x=y):((x:Int)==(y:Int))=true:=by simp[h]
theorem aC(h:x≠y):((x:Int)==(y:Int))=false:=aN (by omega)
theorem nH(h:x≠y):((x:Int) != (y:Int))=true:=dq (by omega)
theorem gj(h:x=y):((x:Int) != (y:Int))=false:=by simp[h]
theorem bB{p:Bool}(h:p=false):(!p)=true:=by simp[h]
theorem ay{p:Bool}(h:p=true):(!p)=false:=by simp[h]
theorem wC{p q:Bool}(h:p=q):(p==q)=true:=by simp[h]
theorem Br{p q:Bool}(h:p≠q):(p==q)=false:=by simp[h]
theorem Zy:(if (y:Int)>(x:Int) then (y:Int) else (x:Int))=((max x y:Nat):Int):=by split<;>omega
theorem Zz:(if b>a then b else a)=max a b:=by split<;>omega
end
section
variable {α:Type} {enc:α→List PV} {xs ys:List α} {k l u n m sz off:Nat} {v d:α}
def Sz(enc:α→List PV)(sz:Nat):Prop:=∀a,(enc a).length=sz
theorem cx:Sz ai 1:=fun _=>rfl
theorem mS:Sz cJ 1:=fun _=>rfl
theorem QS:Sz pY 1:=fun _=>rfl
theorem og(enc:α→List PV):Sz (an enc) 1:=fun _=>rfl
theorem Xg(h:xs[k]? = some v):(xs.map enc)[k]? = some (enc v):=by simp[h]
theorem wD(hs:Sz enc sz):∀xs:List α,((xs.map enc).flatten).length=xs.length*sz
 |[]=>by simp
 |x::xs=>by simp[wD hs xs,hs x,Nat.add_mul,Nat.add_comm]
theorem xI(hs:Sz enc sz):∀(xs:List α) (k:Nat),((xs.map enc).flatten).drop (k*sz)=((xs.drop k).map enc).flatten
 |[],k=>by simp
 |x::xs,0=>by simp
 |x::xs,k+1=>by
  rw[List.drop_succ_cons,←xI hs xs k,List.map_cons,List.flatten_cons,Nat.succ_mul,Nat.add_comm,←List.drop_drop,List.drop_left' (hs x)]
theorem AQ(hs:Sz enc sz):∀(xs:List α) (k:Nat),((xs.map enc).flatten).take (k*sz)=((xs.take k).map enc).flatten
 |[],k=>by simp
 |x::xs,0=>by simp
 |x::xs,k+1=>by
  have h:(k+1)*sz=(enc x).length+k*sz:=by rw[hs x,Nat.succ_mul,Nat.add_comm]
  rw[List.take_succ_cons,List.map_cons,List.map_cons,List.flatten_cons,List.flatten_cons,←AQ hs xs k,h,List.take_length_add_append]
theorem QT{f:α→PV}(he:∀a,enc a=[f a])(h:xs[k]? = some v):(((xs.map enc).flatten).map EV.pv)[0+k*1]? = some (.pv (f v)):=by
 have hs:Sz enc 1:=fun a=>by rw[he];rfl
 have h1:=xI hs xs k
 have hk:k<xs.length:=(List.getElem?_eq_some_iff.1 h).1
 have hv:xs[k]=v:=by
  have:=List.getElem?_eq_getElem hk
  rw[h] at this;injection this with this;exact this.symm
 have h2:((xs.map enc).flatten)[k*1]? = some (f v):=by
  have:(((xs.map enc).flatten).drop (k*1))[0]? = some (f v):=by
   rw[h1,List.drop_eq_getElem_cons hk,hv];simp[he]
  rw[List.getElem?_drop] at this
  simpa using this
 rw[Nat.zero_add,List.getElem?_map,h2];rfl
theorem UZ(hs:Sz enc sz)(h:xs[k]? = some v):((((xs.map enc).flatten).map EV.pv).drop (0+k*sz)).take sz=(enc v).map EV.pv:=by
 have hk:k<xs.length:=(List.getElem?_eq_some_iff.1 h).1
 have hv:xs[k]=v:=by
  have:=List.getElem?_eq_getElem hk
  rw[h] at this;injection this with this;exact this.symm
 rw[Nat.zero_add,←List.map_drop,←List.map_take,xI hs,List.drop_eq_getElem_cons hk,hv,List.map_cons,List.flatten_cons,List.take_left' (hs v)]
theorem Pj(hs:Sz enc sz)(h:k<xs.length):j7 ((xs.map enc).flatten) (k*sz) (enc v)=((xs.set k v).map enc).flatten:=by
 unfold j7
 have h1:(enc v).length=sz:=hs v
 rw[h1,AQ hs,show k*sz+sz=(k+1)*sz from(Nat.succ_mul k sz).symm,xI hs,List.set_eq_take_append_cons_drop,if_pos h]
 simp
theorem QU(hs:Sz enc sz)(h:k<xs.length):j7 (((xs.map enc).flatten).map EV.pv) (0+k*sz) ((enc v).map EV.pv)=(((xs.set k v).map enc).flatten).map EV.pv:=by
 rw[←Pj hs h,Nat.zero_add]
 simp[j7,List.map_drop,List.map_take]
theorem GZ(hs:Sz enc sz)(h:k<xs.length):(0+k*sz)+((enc v).map EV.pv).length≤(((xs.map enc).flatten).map EV.pv).length:=by
 rw[Nat.zero_add,List.length_map,List.length_map,hs v,wD hs]
 calc k*sz+sz=(k+1)*sz:=(Nat.succ_mul k sz).symm
  _≤xs.length*sz:=Nat.mul_le_mul_right _ h
theorem yx(hs:Sz enc sz):∀row∈xs.map enc,row.length=sz:=by
 intro row h
 obtain⟨a,_,rfl⟩:=List.mem_map.1 h
 exact hs a
theorem QV:(xs.map enc).flatten++(ys.map enc).flatten=((xs++ys).map enc).flatten:=by simp
theorem MS:xs.length+(ys.map enc).length=(xs++ys).length:=by simp
theorem Ld:xs.length+ys.length=(xs++ys).length:=by simp
theorem U3:((xs.map enc).take u).drop l=((xs.take u).drop l).map enc:=by simp[List.map_drop,List.map_take]
theorem SX:((xs.map enc).take u).drop 0=(xs.take u).map enc:=by simp[List.map_take]
theorem T0(h:k≤xs.length):k≤(xs.map enc).length:=by simpa using h
theorem Xh{b:Int}(h:b=(k:Int))(hk:k≤xs.length):b=(((xs.take k).length:Nat):Int):=by rw[h,List.length_take];omega
theorem SY:(xs.take k).length≤xs.length:=by rw[List.length_take];omega
theorem C2{b:Nat}(h:n*b≤140737488355328)(hb:Nat.ble 1 b=true):n<9223372036854775808:=by
 have h1:1≤b:=Nat.le_of_ble_eq_true hb
 have h2:n*1≤n*b:=Nat.mul_le_mul_left n h1
 omega
theorem Pk{b:Nat}(h:b*n≤140737488355328)(hb:Nat.ble 1 b=true):n<9223372036854775808:=C2 (by rw[Nat.mul_comm];exact h) hb
theorem U4{z:List PV}(h:z=enc d):(List.replicate m z).flatten=((List.replicate m d).map enc).flatten:=by simp[h]
theorem SZ(h:n=xs.length):n=(xs.map enc).length:=by simpa using h
theorem au(enc:α→List PV)(xs:List α):((xs.map enc).length:Int)=(xs.length:Int):=by simp
theorem bU(enc:α→List PV){i:Int}(hi:i=(k:Int))(h:xs[k]? = some v):i=(k:Int)∧(xs.map enc)[k]? = some (enc v)∧(enc v).length=(enc v).length:=⟨hi,Xg h,rfl⟩
theorem fP(hs:Sz enc sz)(X:List α):(X.map enc).flatten=(X.map enc).flatten∧(X.map enc).length=(X.map enc).length∧∀row∈X.map enc,row.length=sz:=⟨rfl,rfl,yx hs⟩
theorem wE(hs:Sz enc sz)(h:xs[k]? = some v):((((xs.map enc).flatten).map EV.pv).drop (0+k*sz)).take sz=(enc v).map EV.pv∧(enc v).length=(enc v).length:=⟨UZ hs h,rfl⟩
theorem j5{f:α→PV}(he:∀a,enc a=[f a])(h:xs[k]? = some v):(((xs.map enc).flatten).map EV.pv)[0+k*1]? = some (.pv (f v)):=QT he h
theorem yy(enc:α→List PV)(d:α){n:Int}(b m:Nat)(hm:n=(m:Int))(h:b*m≤140737488355328)(hb:Nat.ble 1 b=true) :
  n=(m:Int)∧n=(m:Int)∧b*m≤140737488355328∧m<9223372036854775808∧(List.replicate m (enc d)).flatten=((List.replicate m d).map enc).flatten:=⟨hm,hm,h,Pk h hb,U4 rfl⟩
theorem Xi(hs:Sz enc sz)(xs:List α){a b:Int}(h1:a=(l:Int))(h2:b=(u:Int))(h3:l≤u)(h4:u≤xs.length) :
  a=(l:Int)∧b=(u:Int)∧l≤u∧u≤(xs.map enc).length∧((xs.map enc).take u).drop l=((xs.take u).drop l).map enc∧∀row∈((xs.take u).drop l).map enc,row.length=sz :=
 ⟨h1,h2,h3,T0 h4,U3,yx hs⟩
theorem C3(hs:Sz enc sz)(xs:List α){b:Int}(h2:b=(u:Int))(h4:u≤xs.length) :
  ((0:Nat):Int)=((0:Nat):Int)∧b=(u:Int)∧0≤u∧u≤(xs.map enc).length∧((xs.map enc).take u).drop 0=(xs.take u).map enc∧∀row∈(xs.take u).map enc,row.length=sz :=
 ⟨rfl,h2,Nat.zero_le _,T0 h4,SX,yx hs⟩
theorem Xj(hs:Sz enc sz)(xs:List α){a:Int}(h1:a=(l:Int))(h3:l≤xs.length) :
  a=(l:Int)∧((xs.map enc).length:Int)=(xs.length:Int)∧l≤xs.length∧xs.length≤(xs.map enc).length∧((xs.map enc).take xs.length).drop l=(xs.drop l).map enc∧∀row∈(xs.drop l).map enc,row.length=sz :=
 ⟨h1,by simp,h3,by simp,by rw[List.take_of_length_le (by simp),List.map_drop],yx hs⟩
theorem mm(hs:Sz enc sz)(xs:List α)(v:α)(h:k<xs.length):(0+k*sz)+((enc v).map EV.pv).length≤(((xs.map enc).flatten).map EV.pv).length∧j7 (((xs.map enc).flatten).map EV.pv) (0+k*sz) ((enc v).map EV.pv)=(((xs.set k v).map enc).flatten).map EV.pv :=
 ⟨GZ hs h,QU hs h⟩
theorem s6(hs:Sz enc sz)(xs ys:List α)(b:Nat)(hx:xs.length=n)(h:(xs++ys).length*b≤140737488355328)(hb:Nat.ble 1 b=true) :
  ((xs.map enc).flatten).length=n*sz∧(∀row∈ys.map enc,row.length=sz)∧n+(ys.map enc).length=(xs++ys).length∧(xs.map enc).flatten++(ys.map enc).flatten=((xs++ys).map enc).flatten ∧
   (xs++ys).length*b≤140737488355328∧(xs++ys).length<9223372036854775808 :=
 ⟨by rw[wD hs,hx],yx hs,by rw[←hx];exact MS,QV,h,C2 h hb⟩
theorem gm(hs:Sz enc sz)(xs ys:List α)(b:Nat)(hx:xs.length=n)(hy:ys.length=m)(h:(xs++ys).length*b≤140737488355328)(hb:Nat.ble 1 b=true) :
  ((xs.map enc).flatten).length=n*sz∧((ys.map enc).flatten).length=m*sz∧n+m=(xs++ys).length∧(xs.map enc).flatten++(ys.map enc).flatten=((xs++ys).map enc).flatten ∧
   (xs++ys).length*b≤140737488355328∧(xs++ys).length<9223372036854775808 :=
 ⟨by rw[wD hs,hx],by rw[wD hs,hy],by rw[←hx,←hy];exact Ld,QV,h,C2 h hb⟩
theorem U5(hs:Sz enc sz)(xs:List α)(d:α)(b m:Nat){q:Int}(hx:xs.length=n)(hm:q=(m:Int))(h:(xs++List.replicate m d).length*b≤140737488355328)(hb:Nat.ble 1 b=true) :
  ((xs.map enc).flatten).length=n*sz∧n≤(xs++List.replicate m d).length∧q=(((xs++List.replicate m d).length-n:Nat):Int)∧(xs.map enc).flatten++(List.replicate ((xs++List.replicate m d).length-n) (enc d)).flatten=((xs++List.replicate m d).map enc).flatten ∧
   (xs++List.replicate m d).length*b≤140737488355328∧(xs++List.replicate m d).length<9223372036854775808:=by
 have e:(xs++List.replicate m d).length-n=m:=by rw[List.length_append,List.length_replicate];omega
 refine⟨by rw[wD hs,hx],by rw[List.length_append];omega,by rw[e];exact hm,?_,h,C2 h hb⟩
 rw[e,List.map_append,List.flatten_append,List.map_replicate]
theorem eR(hs:Sz enc sz)(xs:List α)(h:n=xs.length):n=(xs.map enc).length∧(xs.map enc).flatten=(xs.map enc).flatten∧∀row∈xs.map enc,row.length=sz:=⟨SZ h,rfl,yx hs⟩
theorem Bs(hs:Sz enc sz)(xs:List α)(k:Nat):((xs.map enc).flatten).take (k*sz)=((xs.take k).map enc).flatten:=AQ hs xs k
theorem QW(hs:Sz enc sz)(xs ys:List α)(h:min ys.length n=k)(hk:k≤xs.length):(∀row∈ys.map enc,row.length=sz)∧min (ys.map enc).length n=k∧0+k*sz≤((xs.map enc).flatten).length ∧
  j7 ((xs.map enc).flatten) 0 (((ys.map enc).flatten).take (k*sz))=((ys.take k++xs.drop k).map enc).flatten:=by
 refine⟨yx hs,by simpa using h,by rw[wD hs,Nat.zero_add];exact Nat.mul_le_mul_right _ hk,?_⟩
 have hy:k≤ys.length:=by omega
 rw[AQ hs]
 unfold j7
 rw[List.take_zero,List.nil_append,Nat.zero_add,wD hs,List.length_take,Nat.min_eq_left hy,xI hs]
 simp
theorem BO(x y:Nat):(if (y:Int)>(x:Int) then (y:Int) else (x:Int))=((max x y:Nat):Int):=Zy
theorem MT(a b:Int):(if b>a then b else a)=max a b:=Zz
theorem BP{f:α→PV}(he:∀a,enc a=[f a])(h:xs[off+k]? = some v):(((xs.map enc).flatten).map EV.pv)[off+k*1]? = some (.pv (f v)):=by
 have:=QT (xs:=xs) (k:=off+k) he h
 rw[Nat.mul_one]
 rw[Nat.zero_add,Nat.mul_one] at this
 exact this
theorem QX(hs:Sz enc 1)(xs:List α)(v:α)(off k:Nat)(h:off+k<xs.length):(off+k*1)+((enc v).map EV.pv).length≤(((xs.map enc).flatten).map EV.pv).length∧j7 (((xs.map enc).flatten).map EV.pv) (off+k*1) ((enc v).map EV.pv)=(((xs.set (off+k) v).map enc).flatten).map EV.pv:=by
 have h1:=GZ (k:=off+k) (v:=v) hs h
 have h2:=QU (k:=off+k) (v:=v) hs h
 rw[Nat.zero_add,Nat.mul_one] at h1 h2
 rw[Nat.mul_one]
 exact⟨h1,h2⟩
theorem Le(xs:List α){b:Int}(h:b=(k:Int))(hk:k≤xs.length):((0:Nat):Int)=((0:Nat):Int)∧b=(((xs.take k).length:Nat):Int)∧(0=0∨0<(xs.take k).length)∧0≤(xs.take k).length∧(xs.take k).length≤xs.length :=
 ⟨rfl,Xh h hk,.inl rfl,Nat.zero_le _,SY⟩
theorem Xk{a b:Int}(h1:a=(l:Int))(h2:b=(u:Int))(h3:l=0∨l<u)(h4:l≤u)(h5:u≤n):a=(l:Int)∧b=(u:Int)∧(l=0∨l<u)∧l≤u∧u≤n:=⟨h1,h2,h3,h4,h5⟩
theorem S0{x:Int}{op:BinOp}{q r:PV}(h:x=(k:Int))(hb:jm true op (.int .i64 (k:Int)) q=some r):jm true op (.int .i64 x) q=some r:=by rw[h];exact hb
theorem S1{x:Int}{op:BinOp}{p r:PV}{kk:IntKind}(h:x=(k:Int))(hb:jm true op p (.int kk (k:Int))=some r):jm true op p (.int kk x)=some r:=by rw[h];exact hb
end
theorem Pm(e:Option Int):(bC e).cells=[bC e]∧(bC e).Bk=false:=by cases e<;>exact⟨rfl,rfl⟩
theorem I3:∀(es pre:List (Option Int)),sQ (fun i=>some (i*1,1)) (pre.map bC++List.replicate es.length PV.aq) ((es.zipIdx pre.length).map (fun x=>(x.2,bC x.1)))=some ((pre++es).map bC)
 |[],pre=>by simp[sQ]
 |e::es,pre=>by
  have ih:=I3 es (pre++[e])
  obtain⟨h1,h2⟩:=Pm e
  have hl:(pre.map bC++List.replicate (es.length+1) PV.aq).length=pre.length+(es.length+1):=by simp
  rw[List.zipIdx_cons,List.map_cons]
  simp only[sQ,h1,h2,List.length_cons,List.length_nil]
  rw[hl]
  have hc:(Nat.beq (0+1) 1&&Nat.ble (pre.length*1+(0+1)) (pre.length+(es.length+1)) && !false)=true:=by
   simp only[Bool.not_false,Bool.and_true,Bool.and_eq_true,Nat.ble_eq]
   exact⟨rfl,by omega⟩
  rw[hc,cond_true]
  have hs:j7 (pre.map bC++List.replicate (es.length+1) PV.aq) (pre.length*1) [bC e]=(pre++[e]).map bC++List.replicate es.length PV.aq:=by
   unfold j7
   rw[Nat.mul_one,List.take_left' (by simp),List.length_singleton,←List.drop_drop,List.drop_left' (by simp),List.replicate_succ,List.drop_succ_cons,List.drop_zero]
   simp
  rw[hs]
  simpa using ih
theorem S3(es:List (Option Int)):sQ (fun i=>some (i*1,1)) ((List.replicate es.length [PV.aq]).flatten) (es.zipIdx.map fun x=>(x.2,bC x.1))=some ((es.map CZ).flatten):=by
 have h:=I3 es []
 have e1:∀n:Nat,(List.replicate n [PV.aq]).flatten=List.replicate n PV.aq:=by
  intro n
  induction n with
  |zero=>rfl
  |succ n ih=>rw[List.replicate_succ,List.flatten_cons,ih,List.replicate_succ];rfl
 have e2:∀l:List (Option Int),(l.map CZ).flatten=l.map bC:=by
  intro l
  induction l with
  |nil=>rfl
  |cons a l ih=>rw[List.map_cons,List.flatten_cons,ih,List.map_cons];rfl
 rw[e1,e2]
 simpa using h
end Go.Proofs.YtllmkadmohkbfaaGreatDoor.Sym
