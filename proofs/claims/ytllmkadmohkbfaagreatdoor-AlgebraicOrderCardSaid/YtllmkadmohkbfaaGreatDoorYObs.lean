/- The comparison of algebraic numbers is a total order that agrees with the comparison with fractions. The law AlgebraicOrder returns true for every input, with the tables of numerals of the Go library that the row lists as they are laid. -/
import Derived.Test.YtllmkadmohkbfaaGreatDoorYTypes
namespace Go.Proofs.YtllmkadmohkbfaaGreatDoor.Sym
open Go
def ax(n:Int):Prop := -9223372036854775808≤n∧n<9223372036854775808
theorem wrap_i64{n:Int}(h:ax n):IntKind.i64.wrap n=n:=by
 obtain⟨h1,h2⟩:=h
 have e:IntKind.i64.wrap n=(if (true&&decide (n%18446744073709551616≥9223372036854775808))=true then n%18446744073709551616-18446744073709551616 else n%18446744073709551616):=rfl
 rw[e]
 by_cases hn:n%18446744073709551616≥9223372036854775808
 ·simp[hn];omega
 ·simp[hn];omega
theorem wrap_u64(n:Int):IntKind.u64.wrap n=n%18446744073709551616:=rfl
theorem wrap_u32(n:Int):IntKind.u32.wrap n=n%4294967296:=rfl
section
variable {a b:Int} {x y z r:Nat}
theorem u0{a b:ByteArray}(h:a.size+b.size<9223372036854775808):dQ true .add (.str a) (.str b)=some (.str (a++b)):=by
 simp[dQ,yG,h]
theorem qg{a b:ByteArray}(h:a=b):decide (a=b)=true:=decide_eq_true h
theorem o0(h:ax (a+b)):dQ true .add (.int .i64 a) (.int .i64 b)=some (.int .i64 (a+b)):=by
 show some (PV.int .i64 (IntKind.i64.wrap (a+b)))=_
 rw[wrap_i64 h]
theorem aW(h:ax (a-b)):dQ true .sub (.int .i64 a) (.int .i64 b)=some (.int .i64 (a-b)):=by
 show some (PV.int .i64 (IntKind.i64.wrap (a-b)))=_
 rw[wrap_i64 h]
theorem tV(h:ax (a*b)):dQ true .mul (.int .i64 a) (.int .i64 b)=some (.int .i64 (a*b)):=by
 show some (PV.int .i64 (IntKind.i64.wrap (a*b)))=_
 rw[wrap_i64 h]
theorem aL(h:x+y<9223372036854775808):dQ true .add (.int .i64 (x:Int)) (.int .i64 (y:Int))=some (.int .i64 ((x+y:Nat):Int)):=by
 rw[o0 (by unfold ax;omega)];simp
theorem Hr(h:x*y<9223372036854775808):dQ true .mul (.int .i64 (x:Int)) (.int .i64 (y:Int))=some (.int .i64 ((x*y:Nat):Int)):=by
 rw[tV (by rw[show (x:Int)*(y:Int)=((x*y:Nat):Int) from by simp];unfold ax;omega)];simp
theorem u4(h:y≠0)(h2:x<9223372036854775808):dQ true .quo (.int .i64 (x:Int)) (.int .i64 (y:Int))=some (.int .i64 ((x/y:Nat):Int)):=by
 have h1:decide ((y:Int)=0)=false:=by simp[h]
 show(bif decide ((y:Int)=0) then none else some (PV.int .i64 (IntKind.i64.wrap ((x:Int).tdiv (y:Int)))))=_
 have h3:(x:Int).tdiv (y:Int)=((x/y:Nat):Int):=by simp
 have h4:x/y≤x:=Nat.div_le_self _ _
 rw[h1,h3,wrap_i64 (by generalize x/y=q at *;unfold ax;omega)];rfl
theorem Hs(h:y≠0):dQ true .rem (.int .i64 (x:Int)) (.int .i64 (y:Int))=some (.int .i64 ((x%y:Nat):Int)):=by
 have h1:decide ((y:Int)=0)=false:=by simp[h]
 show(bif decide ((y:Int)=0) then none else some (PV.int .i64 ((x:Int).tmod (y:Int))))=_
 have h3:(x:Int).tmod (y:Int)=((x%y:Nat):Int):=by rw[Int.tmod_eq_emod_of_nonneg (by omega)];simp
 rw[h1,h3];rfl
theorem fh{k:IntKind}(hy:y≤64)(h:x*2^y<9223372036854775808):dQ true .shl (.int .i64 (x:Int)) (.int k (y:Int))=some (.int .i64 ((x*2^y:Nat):Int)):=by
 have h1:decide ((y:Int)<0)=false:=by simp
 show(bif decide ((y:Int)<0) then none else some (PV.int .i64 (IntKind.i64.wrap ((x:Int)*2^(min y 64)))))=_
 have e:(x:Int)*2^y=((x*2^y:Nat):Int):=by simp
 rw[h1,Nat.min_eq_left hy,e,wrap_i64 (by generalize x*2^y=q at *;unfold ax;omega)];rfl
theorem dj(h:(x+y)%18446744073709551616=r):dQ true .add (.int .u64 (x:Int)) (.int .u64 (y:Int))=some (.int .u64 (r:Int)):=by
 subst h;show some (PV.int .u64 (((x:Int)+(y:Int))%18446744073709551616))=_;simp
theorem lQ(h:(x*y)%18446744073709551616=r):dQ true .mul (.int .u64 (x:Int)) (.int .u64 (y:Int))=some (.int .u64 (r:Int)):=by
 subst h;show some (PV.int .u64 (((x:Int)*(y:Int))%18446744073709551616))=_;simp
theorem c9(h:((x:Int)-(y:Int))%18446744073709551616=(r:Int)):dQ true .sub (.int .u64 (x:Int)) (.int .u64 (y:Int))=some (.int .u64 (r:Int)):=by
 rw[←h];rfl
theorem zH(hy:y≠0)(h:(x/y)%18446744073709551616=r):dQ true .quo (.int .u64 (x:Int)) (.int .u64 (y:Int))=some (.int .u64 (r:Int)):=by
 have h1:decide ((y:Int)=0)=false:=by simp[hy]
 show(bif decide ((y:Int)=0) then none else some (PV.int .u64 (((x:Int).tdiv (y:Int))%18446744073709551616)))=_
 have h3:(x:Int).tdiv (y:Int)=((x/y:Nat):Int):=by simp
 rw[h1,h3,←h];simp
theorem zI(hy:y≠0)(h:x%y=r):dQ true .rem (.int .u64 (x:Int)) (.int .u64 (y:Int))=some (.int .u64 (r:Int)):=by
 have h1:decide ((y:Int)=0)=false:=by simp[hy]
 show(bif decide ((y:Int)=0) then none else some (PV.int .u64 ((x:Int).tmod (y:Int))))=_
 have h3:(x:Int).tmod (y:Int)=((x%y:Nat):Int):=by rw[Int.tmod_eq_emod_of_nonneg (by omega)];simp
 rw[h1,h3,←h];simp
theorem lR(h:(x%18446744073709551616) ||| (y%18446744073709551616)=r):dQ true .or (.int .u64 (x:Int)) (.int .u64 (y:Int))=some (.int .u64 (r:Int)):=by
 show some (PV.int .u64 (((BitVec.ofInt 64 (x:Int) ||| BitVec.ofInt 64 (y:Int)).toNat:Int)%18446744073709551616))=_
 have h2:(BitVec.ofInt 64 (x:Int) ||| BitVec.ofInt 64 (y:Int)).toNat=r:=by
  rw[←h];simp[BitVec.toNat_or]
 have h3:=(BitVec.ofInt 64 (x:Int) ||| BitVec.ofInt 64 (y:Int)).isLt
 rw[h2] at h3 ⊢
 congr 2;omega
theorem gP{k:IntKind}(h:(x*2^(min y 64))%18446744073709551616=r):dQ true .shl (.int .u64 (x:Int)) (.int k (y:Int))=some (.int .u64 (r:Int)):=by
 have h1:decide ((y:Int)<0)=false:=by simp
 show(bif decide ((y:Int)<0) then none else some (PV.int .u64 (((x:Int)*2^(min y 64))%18446744073709551616)))=_
 rw[h1,←h];simp
theorem cF{k:IntKind}(h:x/2^(min y 64)=r):dQ true .shr (.int .u64 (x:Int)) (.int k (y:Int))=some (.int .u64 (r:Int)):=by
 have h1:decide ((y:Int)<0)=false:=by simp
 show(bif decide ((y:Int)<0) then none else some (PV.int .u64 ((x:Int).fdiv (2^(min y 64)))))=_
 rw[h1,←h,Int.fdiv_eq_ediv_of_nonneg _ (by exact_mod_cast Nat.zero_le _)];simp
theorem sx(h:(x%4294967296) ||| (y%4294967296)=r):dQ true .or (.int .u32 (x:Int)) (.int .u32 (y:Int))=some (.int .u32 (r:Int)):=by
 show some (PV.int .u32 (((BitVec.ofInt 32 (x:Int) ||| BitVec.ofInt 32 (y:Int)).toNat:Int)%4294967296))=_
 have h2:(BitVec.ofInt 32 (x:Int) ||| BitVec.ofInt 32 (y:Int)).toNat=r:=by
  rw[←h];simp[BitVec.toNat_or]
 have h3:=(BitVec.ofInt 32 (x:Int) ||| BitVec.ofInt 32 (y:Int)).isLt
 rw[h2] at h3 ⊢
 congr 2;omega
theorem fx(h:(x%4294967296) &&& (y%4294967296)=r):dQ true .and (.int .u32 (x:Int)) (.int .u32 (y:Int))=some (.int .u32 (r:Int)):=by
 show some (PV.int .u32 (((BitVec.ofInt 32 (x:Int) &&& BitVec.ofInt 32 (y:Int)).toNat:Int)%4294967296))=_
 have h2:(BitVec.ofInt 32 (x:Int) &&& BitVec.ofInt 32 (y:Int)).toNat=r:=by
  rw[←h];simp[BitVec.toNat_and]
 have h3:=(BitVec.ofInt 32 (x:Int) &&& BitVec.ofInt 32 (y:Int)).isLt
 rw[h2] at h3 ⊢
 congr 2;omega
theorem zJ{k:IntKind}(h:(x*2^(min y 32))%4294967296=r):dQ true .shl (.int .u32 (x:Int)) (.int k (y:Int))=some (.int .u32 (r:Int)):=by
 have h1:decide ((y:Int)<0)=false:=by simp
 show(bif decide ((y:Int)<0) then none else some (PV.int .u32 (((x:Int)*2^(min y 32))%4294967296)))=_
 rw[h1,←h];simp
theorem kh{k:IntKind}(h:x/2^(min y 32)=r):dQ true .shr (.int .u32 (x:Int)) (.int k (y:Int))=some (.int .u32 (r:Int)):=by
 have h1:decide ((y:Int)<0)=false:=by simp
 show(bif decide ((y:Int)<0) then none else some (PV.int .u32 ((x:Int).fdiv (2^(min y 32)))))=_
 rw[h1,←h,Int.fdiv_eq_ediv_of_nonneg _ (by exact_mod_cast Nat.zero_le _)];simp
theorem o4(h:ax (-a)):Bs .neg (.int .i64 a)=some (.int .i64 (-a)):=by
 show some (PV.int .i64 (IntKind.i64.wrap (0-a)))=_
 rw[Int.zero_sub,wrap_i64 h]
theorem zK(h:(0-(x:Int))%18446744073709551616=(r:Int)):Bs .neg (.int .u64 (x:Int))=some (.int .u64 (r:Int)):=by
 rw[←h];rfl
theorem CQ(h:a%18446744073709551616=(r:Int)):IntKind.u64.wrap a=(r:Int):=h
theorem cv(h:x%4294967296=r):IntKind.u32.wrap (x:Int)=(r:Int):=by rw[←h];simp[wrap_u32]
theorem CR(h:x%256=r):IntKind.u8.wrap (x:Int)=(r:Int):=by
 have e:∀n:Int,IntKind.u8.wrap n=n%256:=fun n=>rfl
 rw[e,←h];simp
theorem yi(h:x<9223372036854775808):IntKind.i64.wrap (x:Int)=(x:Int):=wrap_i64 (by unfold ax;omega)
theorem mg(v:UInt32):IntKind.u64.wrap (v.toNat:Int)=(v.toNat:Int):=by
 have:=v.toNat_lt;rw[wrap_u64];omega
theorem RD(v:UInt32):IntKind.i64.wrap (v.toNat:Int)=(v.toNat:Int):=by
 have:=v.toNat_lt;exact wrap_i64 (by unfold ax;omega)
theorem bY(h:a<b):decide (a<b)=true:=decide_eq_true h
theorem bD(h:b≤a):decide (a<b)=false:=decide_eq_false (Int.not_lt.2 h)
theorem eH(h:a≤b):decide (a≤b)=true:=decide_eq_true h
theorem jO(h:b<a):decide (a≤b)=false:=decide_eq_false (Int.not_le.2 h)
theorem aP(h:a=b):(a==b)=true:=by simp[h]
theorem bW(h:a≠b):(a==b)=false:=by simp[h]
theorem gB(h:a≠b):(a != b)=true:=by simp[h]
theorem gk(h:a=b):(a != b)=false:=by simp[h]
theorem ai(h:x<y):decide ((x:Int)<(y:Int))=true:=decide_eq_true (Int.ofNat_lt.2 h)
theorem ar(h:y≤x):decide ((x:Int)<(y:Int))=false:=bD (Int.ofNat_le.2 h)
theorem da(h:x≤y):decide ((x:Int)≤(y:Int))=true:=decide_eq_true (Int.ofNat_le.2 h)
theorem bH(h:y<x):decide ((x:Int)≤(y:Int))=false:=jO (Int.ofNat_lt.2 h)
theorem aM(h:x=y):((x:Int)==(y:Int))=true:=by simp[h]
theorem aB(h:x≠y):((x:Int)==(y:Int))=false:=bW (by omega)
theorem jF(h:x≠y):((x:Int) != (y:Int))=true:=gB (by omega)
theorem gQ(h:x=y):((x:Int) != (y:Int))=false:=by simp[h]
theorem cf{p:Bool}(h:p=false):(!p)=true:=by simp[h]
theorem aU{p:Bool}(h:p=true):(!p)=false:=by simp[h]
theorem oi{p q:Bool}(h:p=q):(p==q)=true:=by simp[h]
theorem tp{p q:Bool}(h:p≠q):(p==q)=false:=by simp[h]
theorem Uh:(if (y:Int)>(x:Int) then (y:Int) else (x:Int))=((max x y:Nat):Int):=by split<;>omega
theorem Ui:(if b>a then b else a)=max a b:=by split<;>omega
end
section
variable {α:Type} {enc:α→List PV} {xs ys:List α} {k l u n m sz off:Nat} {v d:α}
def Sz(enc:α→List PV)(sz:Nat):Prop:=∀a,(enc a).length=sz
theorem aY:Sz ag 1:=fun _=>rfl
theorem zL:Sz fU 1:=fun _=>rfl
theorem Kc:Sz jk 1:=fun _=>rfl
theorem qh(enc:α→List PV):Sz (aC enc) 1:=fun _=>rfl
theorem RF(h:xs[k]? = some v):(xs.map enc)[k]? = some (enc v):=by simp[h]
theorem om(hs:Sz enc sz):∀xs:List α,((xs.map enc).flatten).length=xs.length*sz
 |[]=>by simp
 |x::xs=>by simp[om hs xs,hs x,Nat.add_mul,Nat.add_comm]
theorem pB(hs:Sz enc sz):∀(xs:List α) (k:Nat),((xs.map enc).flatten).drop (k*sz)=((xs.drop k).map enc).flatten
 |[],k=>by simp
 |x::xs,0=>by simp
 |x::xs,k+1=>by
  rw[List.drop_succ_cons,←pB hs xs k,List.map_cons,List.flatten_cons,Nat.succ_mul,Nat.add_comm,←List.drop_drop,List.drop_left' (hs x)]
theorem sy(hs:Sz enc sz):∀(xs:List α) (k:Nat),((xs.map enc).flatten).take (k*sz)=((xs.take k).map enc).flatten
 |[],k=>by simp
 |x::xs,0=>by simp
 |x::xs,k+1=>by
  have h:(k+1)*sz=(enc x).length+k*sz:=by rw[hs x,Nat.succ_mul,Nat.add_comm]
  rw[List.take_succ_cons,List.map_cons,List.map_cons,List.flatten_cons,List.flatten_cons,←sy hs xs k,h,List.take_length_add_append]
theorem Kd{f:α→PV}(he:∀a,enc a=[f a])(h:xs[k]? = some v):(((xs.map enc).flatten).map EV.pv)[0+k*1]? = some (.pv (f v)):=by
 have hs:Sz enc 1:=fun a=>by rw[he];rfl
 have h1:=pB hs xs k
 have hk:k<xs.length:=(List.getElem?_eq_some_iff.1 h).1
 have hv:xs[k]=v:=by
  have:=List.getElem?_eq_getElem hk
  rw[h] at this;injection this with this;exact this.symm
 have h2:((xs.map enc).flatten)[k*1]? = some (f v):=by
  have:(((xs.map enc).flatten).drop (k*1))[0]? = some (f v):=by
   rw[h1,List.drop_eq_getElem_cons hk,hv];simp[he]
  rw[List.getElem?_drop] at this
  simpa using this
 rw[Nat.zero_add,List.getElem?_map,h2];rfl
theorem O9(hs:Sz enc sz)(h:xs[k]? = some v):((((xs.map enc).flatten).map EV.pv).drop (0+k*sz)).take sz=(enc v).map EV.pv:=by
 have hk:k<xs.length:=(List.getElem?_eq_some_iff.1 h).1
 have hv:xs[k]=v:=by
  have:=List.getElem?_eq_getElem hk
  rw[h] at this;injection this with this;exact this.symm
 rw[Nat.zero_add,←List.map_drop,←List.map_take,pB hs,List.drop_eq_getElem_cons hk,hv,List.map_cons,List.flatten_cons,List.take_left' (hs v)]
theorem IE(hs:Sz enc sz)(h:k<xs.length):ee ((xs.map enc).flatten) (k*sz) (enc v)=((xs.set k v).map enc).flatten:=by
 unfold ee
 have h1:(enc v).length=sz:=hs v
 rw[h1,sy hs,show k*sz+sz=(k+1)*sz from(Nat.succ_mul k sz).symm,pB hs,List.set_eq_take_append_cons_drop,if_pos h]
 simp
theorem Ke(hs:Sz enc sz)(h:k<xs.length):ee (((xs.map enc).flatten).map EV.pv) (0+k*sz) ((enc v).map EV.pv)=(((xs.set k v).map enc).flatten).map EV.pv:=by
 rw[←IE hs h,Nat.zero_add]
 simp[ee,List.map_drop,List.map_take]
theorem zM(hs:Sz enc sz)(h:k<xs.length):(0+k*sz)+((enc v).map EV.pv).length≤(((xs.map enc).flatten).map EV.pv).length:=by
 rw[Nat.zero_add,List.length_map,List.length_map,hs v,om hs]
 calc k*sz+sz=(k+1)*sz:=(Nat.succ_mul k sz).symm
  _≤xs.length*sz:=Nat.mul_le_mul_right _ h
theorem qi(hs:Sz enc sz):∀row∈xs.map enc,row.length=sz:=by
 intro row h
 obtain⟨a,_,rfl⟩:=List.mem_map.1 h
 exact hs a
theorem Kf:(xs.map enc).flatten++(ys.map enc).flatten=((xs++ys).map enc).flatten:=by simp
theorem Gj:xs.length+(ys.map enc).length=(xs++ys).length:=by simp
theorem Ev:xs.length+ys.length=(xs++ys).length:=by simp
theorem Pa:((xs.map enc).take u).drop l=((xs.take u).drop l).map enc:=by simp[List.map_drop,List.map_take]
theorem MP:((xs.map enc).take u).drop 0=(xs.take u).map enc:=by simp[List.map_take]
theorem N4(h:k≤xs.length):k≤(xs.map enc).length:=by simpa using h
theorem RG{b:Int}(h:b=(k:Int))(hk:k≤xs.length):b=(((xs.take k).length:Nat):Int):=by rw[h,List.length_take];omega
theorem MQ:(xs.take k).length≤xs.length:=by rw[List.length_take];omega
theorem u5{b:Nat}(h:n*b≤140737488355328)(hb:Nat.ble 1 b=true):n<9223372036854775808:=by
 have h1:1≤b:=Nat.le_of_ble_eq_true hb
 have h2:n*1≤n*b:=Nat.mul_le_mul_left n h1
 omega
theorem IF{b:Nat}(h:b*n≤140737488355328)(hb:Nat.ble 1 b=true):n<9223372036854775808:=u5 (by rw[Nat.mul_comm];exact h) hb
theorem Pb{z:List PV}(h:z=enc d):(List.replicate m z).flatten=((List.replicate m d).map enc).flatten:=by simp[h]
theorem MR(h:n=xs.length):n=(xs.map enc).length:=by simpa using h
theorem an(enc:α→List PV)(xs:List α):((xs.map enc).length:Int)=(xs.length:Int):=by simp
theorem bO(enc:α→List PV){i:Int}(hi:i=(k:Int))(h:xs[k]? = some v):i=(k:Int)∧(xs.map enc)[k]? = some (enc v)∧(enc v).length=(enc v).length:=⟨hi,RF h,rfl⟩
theorem ki(hs:Sz enc sz)(X:List α):(X.map enc).flatten=(X.map enc).flatten∧(X.map enc).length=(X.map enc).length∧∀row∈X.map enc,row.length=sz:=⟨rfl,rfl,qi hs⟩
theorem rB(hs:Sz enc sz)(h:xs[k]? = some v):((((xs.map enc).flatten).map EV.pv).drop (0+k*sz)).take sz=(enc v).map EV.pv∧(enc v).length=(enc v).length:=⟨O9 hs h,rfl⟩
theorem fj{f:α→PV}(he:∀a,enc a=[f a])(h:xs[k]? = some v):(((xs.map enc).flatten).map EV.pv)[0+k*1]? = some (.pv (f v)):=Kd he h
theorem q9(enc:α→List PV)(d:α){n:Int}(b m:Nat)(hm:n=(m:Int))(h:b*m≤140737488355328)(hb:Nat.ble 1 b=true) :
  n=(m:Int)∧n=(m:Int)∧b*m≤140737488355328∧m<9223372036854775808∧(List.replicate m (enc d)).flatten=((List.replicate m d).map enc).flatten:=⟨hm,hm,h,IF h hb,Pb rfl⟩
theorem RH(hs:Sz enc sz)(xs:List α){a b:Int}(h1:a=(l:Int))(h2:b=(u:Int))(h3:l≤u)(h4:u≤xs.length) :
  a=(l:Int)∧b=(u:Int)∧l≤u∧u≤(xs.map enc).length∧((xs.map enc).take u).drop l=((xs.take u).drop l).map enc∧∀row∈((xs.take u).drop l).map enc,row.length=sz :=
 ⟨h1,h2,h3,N4 h4,Pa,qi hs⟩
theorem u6(hs:Sz enc sz)(xs:List α){b:Int}(h2:b=(u:Int))(h4:u≤xs.length) :
  ((0:Nat):Int)=((0:Nat):Int)∧b=(u:Int)∧0≤u∧u≤(xs.map enc).length∧((xs.map enc).take u).drop 0=(xs.take u).map enc∧∀row∈(xs.take u).map enc,row.length=sz :=
 ⟨rfl,h2,Nat.zero_le _,N4 h4,MP,qi hs⟩
theorem RI(hs:Sz enc sz)(xs:List α){a:Int}(h1:a=(l:Int))(h3:l≤xs.length) :
  a=(l:Int)∧((xs.map enc).length:Int)=(xs.length:Int)∧l≤xs.length∧xs.length≤(xs.map enc).length∧((xs.map enc).take xs.length).drop l=(xs.drop l).map enc∧∀row∈(xs.drop l).map enc,row.length=sz :=
 ⟨h1,by simp,h3,by simp,by rw[List.take_of_length_le (by simp),List.map_drop],qi hs⟩
theorem gm(hs:Sz enc sz)(xs:List α)(v:α)(h:k<xs.length):(0+k*sz)+((enc v).map EV.pv).length≤(((xs.map enc).flatten).map EV.pv).length∧ee (((xs.map enc).flatten).map EV.pv) (0+k*sz) ((enc v).map EV.pv)=(((xs.set k v).map enc).flatten).map EV.pv :=
 ⟨zM hs h,Ke hs h⟩
theorem qj(hs:Sz enc sz)(xs ys:List α)(b:Nat)(hx:xs.length=n)(h:(xs++ys).length*b≤140737488355328)(hb:Nat.ble 1 b=true) :
  ((xs.map enc).flatten).length=n*sz∧(∀row∈ys.map enc,row.length=sz)∧n+(ys.map enc).length=(xs++ys).length∧(xs.map enc).flatten++(ys.map enc).flatten=((xs++ys).map enc).flatten ∧
   (xs++ys).length*b≤140737488355328∧(xs++ys).length<9223372036854775808 :=
 ⟨by rw[om hs,hx],qi hs,by rw[←hx];exact Gj,Kf,h,u5 h hb⟩
theorem gR(hs:Sz enc sz)(xs ys:List α)(b:Nat)(hx:xs.length=n)(hy:ys.length=m)(h:(xs++ys).length*b≤140737488355328)(hb:Nat.ble 1 b=true) :
  ((xs.map enc).flatten).length=n*sz∧((ys.map enc).flatten).length=m*sz∧n+m=(xs++ys).length∧(xs.map enc).flatten++(ys.map enc).flatten=((xs++ys).map enc).flatten ∧
   (xs++ys).length*b≤140737488355328∧(xs++ys).length<9223372036854775808 :=
 ⟨by rw[om hs,hx],by rw[om hs,hy],by rw[←hx,←hy];exact Ev,Kf,h,u5 h hb⟩
theorem Pc(hs:Sz enc sz)(xs:List α)(d:α)(b m:Nat){q:Int}(hx:xs.length=n)(hm:q=(m:Int))(h:(xs++List.replicate m d).length*b≤140737488355328)(hb:Nat.ble 1 b=true) :
  ((xs.map enc).flatten).length=n*sz∧n≤(xs++List.replicate m d).length∧q=(((xs++List.replicate m d).length-n:Nat):Int)∧(xs.map enc).flatten++(List.replicate ((xs++List.replicate m d).length-n) (enc d)).flatten=((xs++List.replicate m d).map enc).flatten ∧
   (xs++List.replicate m d).length*b≤140737488355328∧(xs++List.replicate m d).length<9223372036854775808:=by
 have e:(xs++List.replicate m d).length-n=m:=by rw[List.length_append,List.length_replicate];omega
 refine⟨by rw[om hs,hx],by rw[List.length_append];omega,by rw[e];exact hm,?_,h,u5 h hb⟩
 rw[e,List.map_append,List.flatten_append,List.map_replicate]
theorem cU(hs:Sz enc sz)(xs:List α)(h:n=xs.length):n=(xs.map enc).length∧(xs.map enc).flatten=(xs.map enc).flatten∧∀row∈xs.map enc,row.length=sz:=⟨MR h,rfl,qi hs⟩
theorem tq(hs:Sz enc sz)(xs:List α)(k:Nat):((xs.map enc).flatten).take (k*sz)=((xs.take k).map enc).flatten:=sy hs xs k
theorem Kg(hs:Sz enc sz)(xs ys:List α)(h:min ys.length n=k)(hk:k≤xs.length):(∀row∈ys.map enc,row.length=sz)∧min (ys.map enc).length n=k∧0+k*sz≤((xs.map enc).flatten).length ∧
  ee ((xs.map enc).flatten) 0 (((ys.map enc).flatten).take (k*sz))=((ys.take k++xs.drop k).map enc).flatten:=by
 refine⟨qi hs,by simpa using h,by rw[om hs,Nat.zero_add];exact Nat.mul_le_mul_right _ hk,?_⟩
 have hy:k≤ys.length:=by omega
 rw[sy hs]
 unfold ee
 rw[List.take_zero,List.nil_append,Nat.zero_add,om hs,List.length_take,Nat.min_eq_left hy,pB hs]
 simp
theorem tW(x y:Nat):(if (y:Int)>(x:Int) then (y:Int) else (x:Int))=((max x y:Nat):Int):=Uh
theorem Gk(a b:Int):(if b>a then b else a)=max a b:=Ui
theorem tX{f:α→PV}(he:∀a,enc a=[f a])(h:xs[off+k]? = some v):(((xs.map enc).flatten).map EV.pv)[off+k*1]? = some (.pv (f v)):=by
 have:=Kd (xs:=xs) (k:=off+k) he h
 rw[Nat.mul_one]
 rw[Nat.zero_add,Nat.mul_one] at this
 exact this
theorem Kh(hs:Sz enc 1)(xs:List α)(v:α)(off k:Nat)(h:off+k<xs.length):(off+k*1)+((enc v).map EV.pv).length≤(((xs.map enc).flatten).map EV.pv).length∧ee (((xs.map enc).flatten).map EV.pv) (off+k*1) ((enc v).map EV.pv)=(((xs.set (off+k) v).map enc).flatten).map EV.pv:=by
 have h1:=zM (k:=off+k) (v:=v) hs h
 have h2:=Ke (k:=off+k) (v:=v) hs h
 rw[Nat.zero_add,Nat.mul_one] at h1 h2
 rw[Nat.mul_one]
 exact⟨h1,h2⟩
theorem Ew(xs:List α){b:Int}(h:b=(k:Int))(hk:k≤xs.length):((0:Nat):Int)=((0:Nat):Int)∧b=(((xs.take k).length:Nat):Int)∧(0=0∨0<(xs.take k).length)∧0≤(xs.take k).length∧(xs.take k).length≤xs.length :=
 ⟨rfl,RG h hk,.inl rfl,Nat.zero_le _,MQ⟩
theorem RJ{a b:Int}(h1:a=(l:Int))(h2:b=(u:Int))(h3:l=0∨l<u)(h4:l≤u)(h5:u≤n):a=(l:Int)∧b=(u:Int)∧(l=0∨l<u)∧l≤u∧u≤n:=⟨h1,h2,h3,h4,h5⟩
theorem MS{x:Int}{op:BinOp}{q r:PV}(h:x=(k:Int))(hb:dQ true op (.int .i64 (k:Int)) q=some r):dQ true op (.int .i64 x) q=some r:=by rw[h];exact hb
theorem MT{x:Int}{op:BinOp}{p r:PV}{kk:IntKind}(h:x=(k:Int))(hb:dQ true op p (.int kk (k:Int))=some r):dQ true op p (.int kk x)=some r:=by rw[h];exact hb
end
theorem IG(e:Option Int):(bc e).cells=[bc e]∧(bc e).td=false:=by cases e<;>exact⟨rfl,rfl⟩
theorem BI:∀(es pre:List (Option Int)),lM (fun i=>some (i*1,1)) (pre.map bc++List.replicate es.length PV.az) ((es.zipIdx pre.length).map (fun x=>(x.2,bc x.1)))=some ((pre++es).map bc)
 |[],pre=>by simp[lM]
 |e::es,pre=>by
  have ih:=BI es (pre++[e])
  obtain⟨h1,h2⟩:=IG e
  have hl:(pre.map bc++List.replicate (es.length+1) PV.az).length=pre.length+(es.length+1):=by simp
  rw[List.zipIdx_cons,List.map_cons]
  simp only[lM,h1,h2,List.length_cons,List.length_nil]
  rw[hl]
  have hc:(Nat.beq (0+1) 1&&Nat.ble (pre.length*1+(0+1)) (pre.length+(es.length+1)) && !false)=true:=by
   simp only[Bool.not_false,Bool.and_true,Bool.and_eq_true,Nat.ble_eq]
   exact⟨rfl,by omega⟩
  rw[hc,cond_true]
  have hs:ee (pre.map bc++List.replicate (es.length+1) PV.az) (pre.length*1) [bc e]=(pre++[e]).map bc++List.replicate es.length PV.az:=by
   unfold ee
   rw[Nat.mul_one,List.take_left' (by simp),List.length_singleton,←List.drop_drop,List.drop_left' (by simp),List.replicate_succ,List.drop_succ_cons,List.drop_zero]
   simp
  rw[hs]
  simpa using ih
theorem MU(es:List (Option Int)):lM (fun i=>some (i*1,1)) ((List.replicate es.length [PV.az]).flatten) (es.zipIdx.map fun x=>(x.2,bc x.1))=some ((es.map uZ).flatten):=by
 have h:=BI es []
 have e1:∀n:Nat,(List.replicate n [PV.az]).flatten=List.replicate n PV.az:=by
  intro n
  induction n with
  |zero=>rfl
  |succ n ih=>rw[List.replicate_succ,List.flatten_cons,ih,List.replicate_succ];rfl
 have e2:∀l:List (Option Int),(l.map uZ).flatten=l.map bc:=by
  intro l
  induction l with
  |nil=>rfl
  |cons a l ih=>rw[List.map_cons,List.flatten_cons,ih,List.map_cons];rfl
 rw[e1,e2]
 simpa using h
end Go.Proofs.YtllmkadmohkbfaaGreatDoor.Sym
