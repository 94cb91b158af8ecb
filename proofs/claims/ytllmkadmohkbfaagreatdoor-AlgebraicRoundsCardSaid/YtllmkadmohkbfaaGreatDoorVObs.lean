/- Lemmas for the statements of this seat. -/
import Derived.Test.YtllmkadmohkbfaaGreatDoorVTypes
namespace Go.Proofs.YtllmkadmohkbfaaGreatDoor.Sym
open Go
def ax(n:Int):Prop := -9223372036854775808≤n∧n<9223372036854775808
theorem wrap_i64{n:Int}(h:ax n):IntKind.i64.wrap n=n:=by
 obtain⟨h1,h2⟩:=h
 have e:IntKind.i64.wrap n=(if (true&&decide (n%18446744073709551616≥9223372036854775808))=true then n%18446744073709551616-18446744073709551616 else n%18446744073709551616):=rfl
 rw[e]
 by_cases hn:n%18446744073709551616≥9223372036854775808
 ·simp[hn];omega
 ·simp[hn];omega
theorem wrap_u64(n:Int):IntKind.u64.wrap n=n%18446744073709551616:=rfl
theorem wrap_u32(n:Int):IntKind.u32.wrap n=n%4294967296:=rfl
section
variable {a b:Int} {x y z r:Nat}
theorem wI{a b:ByteArray}(h:a.size+b.size<9223372036854775808):eC true .add (.str a) (.str b)=some (.str (a++b)):=by
 simp[eC,AD,h]
theorem rN{a b:ByteArray}(h:a=b):decide (a=b)=true:=decide_eq_true h
theorem qC(h:ax (a+b)):eC true .add (.int .i64 a) (.int .i64 b)=some (.int .i64 (a+b)):=by
 show some (PV.int .i64 (IntKind.i64.wrap (a+b)))=_
 rw[wrap_i64 h]
theorem aT(h:ax (a-b)):eC true .sub (.int .i64 a) (.int .i64 b)=some (.int .i64 (a-b)):=by
 show some (PV.int .i64 (IntKind.i64.wrap (a-b)))=_
 rw[wrap_i64 h]
theorem vu(h:ax (a*b)):eC true .mul (.int .i64 a) (.int .i64 b)=some (.int .i64 (a*b)):=by
 show some (PV.int .i64 (IntKind.i64.wrap (a*b)))=_
 rw[wrap_i64 h]
theorem aM(h:x+y<9223372036854775808):eC true .add (.int .i64 (x:Int)) (.int .i64 (y:Int))=some (.int .i64 ((x+y:Nat):Int)):=by
 rw[qC (by unfold ax;omega)];simp
theorem Jq(h:x*y<9223372036854775808):eC true .mul (.int .i64 (x:Int)) (.int .i64 (y:Int))=some (.int .i64 ((x*y:Nat):Int)):=by
 rw[vu (by rw[show (x:Int)*(y:Int)=((x*y:Nat):Int) from by simp];unfold ax;omega)];simp
theorem wJ(h:y≠0)(h2:x<9223372036854775808):eC true .quo (.int .i64 (x:Int)) (.int .i64 (y:Int))=some (.int .i64 ((x/y:Nat):Int)):=by
 have h1:decide ((y:Int)=0)=false:=by simp[h]
 show(bif decide ((y:Int)=0) then none else some (PV.int .i64 (IntKind.i64.wrap ((x:Int).tdiv (y:Int)))))=_
 have h3:(x:Int).tdiv (y:Int)=((x/y:Nat):Int):=by simp
 have h4:x/y≤x:=Nat.div_le_self _ _
 rw[h1,h3,wrap_i64 (by generalize x/y=q at *;unfold ax;omega)];rfl
theorem Jr(h:y≠0):eC true .rem (.int .i64 (x:Int)) (.int .i64 (y:Int))=some (.int .i64 ((x%y:Nat):Int)):=by
 have h1:decide ((y:Int)=0)=false:=by simp[h]
 show(bif decide ((y:Int)=0) then none else some (PV.int .i64 ((x:Int).tmod (y:Int))))=_
 have h3:(x:Int).tmod (y:Int)=((x%y:Nat):Int):=by rw[Int.tmod_eq_emod_of_nonneg (by omega)];simp
 rw[h1,h3];rfl
theorem fU{k:IntKind}(hy:y≤64)(h:x*2^y<9223372036854775808):eC true .shl (.int .i64 (x:Int)) (.int k (y:Int))=some (.int .i64 ((x*2^y:Nat):Int)):=by
 have h1:decide ((y:Int)<0)=false:=by simp
 show(bif decide ((y:Int)<0) then none else some (PV.int .i64 (IntKind.i64.wrap ((x:Int)*2^(min y 64)))))=_
 have e:(x:Int)*2^y=((x*2^y:Nat):Int):=by simp
 rw[h1,Nat.min_eq_left hy,e,wrap_i64 (by generalize x*2^y=q at *;unfold ax;omega)];rfl
theorem dH(h:(x+y)%18446744073709551616=r):eC true .add (.int .u64 (x:Int)) (.int .u64 (y:Int))=some (.int .u64 (r:Int)):=by
 subst h;show some (PV.int .u64 (((x:Int)+(y:Int))%18446744073709551616))=_;simp
theorem mI(h:(x*y)%18446744073709551616=r):eC true .mul (.int .u64 (x:Int)) (.int .u64 (y:Int))=some (.int .u64 (r:Int)):=by
 subst h;show some (PV.int .u64 (((x:Int)*(y:Int))%18446744073709551616))=_;simp
theorem dx(h:((x:Int)-(y:Int))%18446744073709551616=(r:Int)):eC true .sub (.int .u64 (x:Int)) (.int .u64 (y:Int))=some (.int .u64 (r:Int)):=by
 rw[←h];rfl
theorem Bm(hy:y≠0)(h:(x/y)%18446744073709551616=r):eC true .quo (.int .u64 (x:Int)) (.int .u64 (y:Int))=some (.int .u64 (r:Int)):=by
 have h1:decide ((y:Int)=0)=false:=by simp[hy]
 show(bif decide ((y:Int)=0) then none else some (PV.int .u64 (((x:Int).tdiv (y:Int))%18446744073709551616)))=_
 have h3:(x:Int).tdiv (y:Int)=((x/y:Nat):Int):=by simp
 rw[h1,h3,←h];simp
theorem Bn(hy:y≠0)(h:x%y=r):eC true .rem (.int .u64 (x:Int)) (.int .u64 (y:Int))=some (.int .u64 (r:Int)):=by
 have h1:decide ((y:Int)=0)=false:=by simp[hy]
 show(bif decide ((y:Int)=0) then none else some (PV.int .u64 ((x:Int).tmod (y:Int))))=_
 have h3:(x:Int).tmod (y:Int)=((x%y:Nat):Int):=by rw[Int.tmod_eq_emod_of_nonneg (by omega)];simp
 rw[h1,h3,←h];simp
theorem mJ(h:(x%18446744073709551616) ||| (y%18446744073709551616)=r):eC true .or (.int .u64 (x:Int)) (.int .u64 (y:Int))=some (.int .u64 (r:Int)):=by
 show some (PV.int .u64 (((BitVec.ofInt 64 (x:Int) ||| BitVec.ofInt 64 (y:Int)).toNat:Int)%18446744073709551616))=_
 have h2:(BitVec.ofInt 64 (x:Int) ||| BitVec.ofInt 64 (y:Int)).toNat=r:=by
  rw[←h];simp[BitVec.toNat_or]
 have h3:=(BitVec.ofInt 64 (x:Int) ||| BitVec.ofInt 64 (y:Int)).isLt
 rw[h2] at h3 ⊢
 congr 2;omega
theorem iH{k:IntKind}(h:(x*2^(min y 64))%18446744073709551616=r):eC true .shl (.int .u64 (x:Int)) (.int k (y:Int))=some (.int .u64 (r:Int)):=by
 have h1:decide ((y:Int)<0)=false:=by simp
 show(bif decide ((y:Int)<0) then none else some (PV.int .u64 (((x:Int)*2^(min y 64))%18446744073709551616)))=_
 rw[h1,←h];simp
theorem cQ{k:IntKind}(h:x/2^(min y 64)=r):eC true .shr (.int .u64 (x:Int)) (.int k (y:Int))=some (.int .u64 (r:Int)):=by
 have h1:decide ((y:Int)<0)=false:=by simp
 show(bif decide ((y:Int)<0) then none else some (PV.int .u64 ((x:Int).fdiv (2^(min y 64)))))=_
 rw[h1,←h,Int.fdiv_eq_ediv_of_nonneg _ (by exact_mod_cast Nat.zero_le _)];simp
theorem uc(h:(x%4294967296) ||| (y%4294967296)=r):eC true .or (.int .u32 (x:Int)) (.int .u32 (y:Int))=some (.int .u32 (r:Int)):=by
 show some (PV.int .u32 (((BitVec.ofInt 32 (x:Int) ||| BitVec.ofInt 32 (y:Int)).toNat:Int)%4294967296))=_
 have h2:(BitVec.ofInt 32 (x:Int) ||| BitVec.ofInt 32 (y:Int)).toNat=r:=by
  rw[←h];simp[BitVec.toNat_or]
 have h3:=(BitVec.ofInt 32 (x:Int) ||| BitVec.ofInt 32 (y:Int)).isLt
 rw[h2] at h3 ⊢
 congr 2;omega
theorem gd(h:(x%4294967296) &&& (y%4294967296)=r):eC true .and (.int .u32 (x:Int)) (.int .u32 (y:Int))=some (.int .u32 (r:Int)):=by
 show some (PV.int .u32 (((BitVec.ofInt 32 (x:Int) &&& BitVec.ofInt 32 (y:Int)).toNat:Int)%4294967296))=_
 have h2:(BitVec.ofInt 32 (x:Int) &&& BitVec.ofInt 32 (y:Int)).toNat=r:=by
  rw[←h];simp[BitVec.toNat_and]
 have h3:=(BitVec.ofInt 32 (x:Int) &&& BitVec.ofInt 32 (y:Int)).isLt
 rw[h2] at h3 ⊢
 congr 2;omega
theorem Bo{k:IntKind}(h:(x*2^(min y 32))%4294967296=r):eC true .shl (.int .u32 (x:Int)) (.int k (y:Int))=some (.int .u32 (r:Int)):=by
 have h1:decide ((y:Int)<0)=false:=by simp
 show(bif decide ((y:Int)<0) then none else some (PV.int .u32 (((x:Int)*2^(min y 32))%4294967296)))=_
 rw[h1,←h];simp
theorem kU{k:IntKind}(h:x/2^(min y 32)=r):eC true .shr (.int .u32 (x:Int)) (.int k (y:Int))=some (.int .u32 (r:Int)):=by
 have h1:decide ((y:Int)<0)=false:=by simp
 show(bif decide ((y:Int)<0) then none else some (PV.int .u32 ((x:Int).fdiv (2^(min y 32)))))=_
 rw[h1,←h,Int.fdiv_eq_ediv_of_nonneg _ (by exact_mod_cast Nat.zero_le _)];simp
theorem x6(h:ax (-a)):C0 .neg (.int .i64 a)=some (.int .i64 (-a)):=by
 show some (PV.int .i64 (IntKind.i64.wrap (0-a)))=_
 rw[Int.zero_sub,wrap_i64 h]
theorem Bp(h:(0-(x:Int))%18446744073709551616=(r:Int)):C0 .neg (.int .u64 (x:Int))=some (.int .u64 (r:Int)):=by
 rw[←h];rfl
theorem Em(h:a%18446744073709551616=(r:Int)):IntKind.u64.wrap a=(r:Int):=h
theorem cH(h:x%4294967296=r):IntKind.u32.wrap (x:Int)=(r:Int):=by rw[←h];simp[wrap_u32]
theorem En(h:x%256=r):IntKind.u8.wrap (x:Int)=(r:Int):=by
 have e:∀n:Int,IntKind.u8.wrap n=n%256:=fun n=>rfl
 rw[e,←h];simp
theorem Ab(h:x<9223372036854775808):IntKind.i64.wrap (x:Int)=(x:Int):=wrap_i64 (by unfold ax;omega)
theorem nq(v:UInt32):IntKind.u64.wrap (v.toNat:Int)=(v.toNat:Int):=by
 have:=v.toNat_lt;rw[wrap_u64];omega
theorem TI(v:UInt32):IntKind.i64.wrap (v.toNat:Int)=(v.toNat:Int):=by
 have:=v.toNat_lt;exact wrap_i64 (by unfold ax;omega)
theorem bR(h:a<b):decide (a<b)=true:=decide_eq_true h
theorem bf(h:b≤a):decide (a<b)=false:=decide_eq_false (Int.not_lt.2 h)
theorem fo(h:a≤b):decide (a≤b)=true:=decide_eq_true h
theorem gM(h:b<a):decide (a≤b)=false:=decide_eq_false (Int.not_le.2 h)
theorem a8(h:a=b):(a==b)=true:=by simp[h]
theorem bg(h:a≠b):(a==b)=false:=by simp[h]
theorem lx(h:a≠b):(a != b)=true:=by simp[h]
theorem gf(h:a=b):(a != b)=false:=by simp[h]
theorem aj(h:x<y):decide ((x:Int)<(y:Int))=true:=decide_eq_true (Int.ofNat_lt.2 h)
theorem ar(h:y≤x):decide ((x:Int)<(y:Int))=false:=bf (Int.ofNat_le.2 h)
theorem dy(h:x≤y):decide ((x:Int)≤(y:Int))=true:=decide_eq_true (Int.ofNat_le.2 h)
theorem bQ(h:y<x):decide ((x:Int)≤(y:Int))=false:=gM (Int.ofNat_lt.2 h)
theorem aN(h:x=y):((x:Int)==(y:Int))=true:=by simp[h]
theorem aA(h:x≠y):((x:Int)==(y:Int))=false:=bg (by omega)
theorem ko(h:x≠y):((x:Int) != (y:Int))=true:=lx (by omega)
theorem iJ(h:x=y):((x:Int) != (y:Int))=false:=by simp[h]
theorem cv{p:Bool}(h:p=false):(!p)=true:=by simp[h]
theorem aO{p:Bool}(h:p=true):(!p)=false:=by simp[h]
theorem pM{p q:Bool}(h:p=q):(p==q)=true:=by simp[h]
theorem uV{p q:Bool}(h:p≠q):(p==q)=false:=by simp[h]
theorem Wt:(if (y:Int)>(x:Int) then (y:Int) else (x:Int))=((max x y:Nat):Int):=by split<;>omega
theorem Wu:(if b>a then b else a)=max a b:=by split<;>omega
end
section
variable {α:Type} {enc:α→List PV} {xs ys:List α} {k l u n m sz off:Nat} {v d:α}
def Sz(enc:α→List PV)(sz:Nat):Prop:=∀a,(enc a).length=sz
theorem aW:Sz ag 1:=fun _=>rfl
theorem Bq:Sz gL 1:=fun _=>rfl
theorem Mj:Sz jX 1:=fun _=>rfl
theorem rO(enc:α→List PV):Sz (aC enc) 1:=fun _=>rfl
theorem TJ(h:xs[k]? = some v):(xs.map enc)[k]? = some (enc v):=by simp[h]
theorem pN(hs:Sz enc sz):∀xs:List α,((xs.map enc).flatten).length=xs.length*sz
 |[]=>by simp
 |x::xs=>by simp[pN hs xs,hs x,Nat.add_mul,Nat.add_comm]
theorem qX(hs:Sz enc sz):∀(xs:List α) (k:Nat),((xs.map enc).flatten).drop (k*sz)=((xs.drop k).map enc).flatten
 |[],k=>by simp
 |x::xs,0=>by simp
 |x::xs,k+1=>by
  rw[List.drop_succ_cons,←qX hs xs k,List.map_cons,List.flatten_cons,Nat.succ_mul,Nat.add_comm,←List.drop_drop,List.drop_left' (hs x)]
theorem ud(hs:Sz enc sz):∀(xs:List α) (k:Nat),((xs.map enc).flatten).take (k*sz)=((xs.take k).map enc).flatten
 |[],k=>by simp
 |x::xs,0=>by simp
 |x::xs,k+1=>by
  have h:(k+1)*sz=(enc x).length+k*sz:=by rw[hs x,Nat.succ_mul,Nat.add_comm]
  rw[List.take_succ_cons,List.map_cons,List.map_cons,List.flatten_cons,List.flatten_cons,←ud hs xs k,h,List.take_length_add_append]
theorem Mk{f:α→PV}(he:∀a,enc a=[f a])(h:xs[k]? = some v):(((xs.map enc).flatten).map EV.pv)[0+k*1]? = some (.pv (f v)):=by
 have hs:Sz enc 1:=fun a=>by rw[he];rfl
 have h1:=qX hs xs k
 have hk:k<xs.length:=(List.getElem?_eq_some_iff.1 h).1
 have hv:xs[k]=v:=by
  have:=List.getElem?_eq_getElem hk
  rw[h] at this;injection this with this;exact this.symm
 have h2:((xs.map enc).flatten)[k*1]? = some (f v):=by
  have:(((xs.map enc).flatten).drop (k*1))[0]? = some (f v):=by
   rw[h1,List.drop_eq_getElem_cons hk,hv];simp[he]
  rw[List.getElem?_drop] at this
  simpa using this
 rw[Nat.zero_add,List.getElem?_map,h2];rfl
theorem Re(hs:Sz enc sz)(h:xs[k]? = some v):((((xs.map enc).flatten).map EV.pv).drop (0+k*sz)).take sz=(enc v).map EV.pv:=by
 have hk:k<xs.length:=(List.getElem?_eq_some_iff.1 h).1
 have hv:xs[k]=v:=by
  have:=List.getElem?_eq_getElem hk
  rw[h] at this;injection this with this;exact this.symm
 rw[Nat.zero_add,←List.map_drop,←List.map_take,qX hs,List.drop_eq_getElem_cons hk,hv,List.map_cons,List.flatten_cons,List.take_left' (hs v)]
theorem KF(hs:Sz enc sz)(h:k<xs.length):fk ((xs.map enc).flatten) (k*sz) (enc v)=((xs.set k v).map enc).flatten:=by
 unfold fk
 have h1:(enc v).length=sz:=hs v
 rw[h1,ud hs,show k*sz+sz=(k+1)*sz from(Nat.succ_mul k sz).symm,qX hs,List.set_eq_take_append_cons_drop,if_pos h]
 simp
theorem Ml(hs:Sz enc sz)(h:k<xs.length):fk (((xs.map enc).flatten).map EV.pv) (0+k*sz) ((enc v).map EV.pv)=(((xs.set k v).map enc).flatten).map EV.pv:=by
 rw[←KF hs h,Nat.zero_add]
 simp[fk,List.map_drop,List.map_take]
theorem Br(hs:Sz enc sz)(h:k<xs.length):(0+k*sz)+((enc v).map EV.pv).length≤(((xs.map enc).flatten).map EV.pv).length:=by
 rw[Nat.zero_add,List.length_map,List.length_map,hs v,pN hs]
 calc k*sz+sz=(k+1)*sz:=(Nat.succ_mul k sz).symm
  _≤xs.length*sz:=Nat.mul_le_mul_right _ h
theorem rP(hs:Sz enc sz):∀row∈xs.map enc,row.length=sz:=by
 intro row h
 obtain⟨a,_,rfl⟩:=List.mem_map.1 h
 exact hs a
theorem Mm:(xs.map enc).flatten++(ys.map enc).flatten=((xs++ys).map enc).flatten:=by simp
theorem H7:xs.length+(ys.map enc).length=(xs++ys).length:=by simp
theorem F6:xs.length+ys.length=(xs++ys).length:=by simp
theorem Rf:((xs.map enc).take u).drop l=((xs.take u).drop l).map enc:=by simp[List.map_drop,List.map_take]
theorem OO:((xs.map enc).take u).drop 0=(xs.take u).map enc:=by simp[List.map_take]
theorem P2(h:k≤xs.length):k≤(xs.map enc).length:=by simpa using h
theorem TL{b:Int}(h:b=(k:Int))(hk:k≤xs.length):b=(((xs.take k).length:Nat):Int):=by rw[h,List.length_take];omega
theorem OP:(xs.take k).length≤xs.length:=by rw[List.length_take];omega
theorem wK{b:Nat}(h:n*b≤140737488355328)(hb:Nat.ble 1 b=true):n<9223372036854775808:=by
 have h1:1≤b:=Nat.le_of_ble_eq_true hb
 have h2:n*1≤n*b:=Nat.mul_le_mul_left n h1
 omega
theorem KG{b:Nat}(h:b*n≤140737488355328)(hb:Nat.ble 1 b=true):n<9223372036854775808:=wK (by rw[Nat.mul_comm];exact h) hb
theorem Rg{z:List PV}(h:z=enc d):(List.replicate m z).flatten=((List.replicate m d).map enc).flatten:=by simp[h]
theorem OQ(h:n=xs.length):n=(xs.map enc).length:=by simpa using h
theorem an(enc:α→List PV)(xs:List α):((xs.map enc).length:Int)=(xs.length:Int):=by simp
theorem bT(enc:α→List PV){i:Int}(hi:i=(k:Int))(h:xs[k]? = some v):i=(k:Int)∧(xs.map enc)[k]? = some (enc v)∧(enc v).length=(enc v).length:=⟨hi,TJ h,rfl⟩
theorem jY(hs:Sz enc sz)(X:List α):(X.map enc).flatten=(X.map enc).flatten∧(X.map enc).length=(X.map enc).length∧∀row∈X.map enc,row.length=sz:=⟨rfl,rfl,rP hs⟩
theorem sI(hs:Sz enc sz)(h:xs[k]? = some v):((((xs.map enc).flatten).map EV.pv).drop (0+k*sz)).take sz=(enc v).map EV.pv∧(enc v).length=(enc v).length:=⟨Re hs h,rfl⟩
theorem gg{f:α→PV}(he:∀a,enc a=[f a])(h:xs[k]? = some v):(((xs.map enc).flatten).map EV.pv)[0+k*1]? = some (.pv (f v)):=Mk he h
theorem sR(enc:α→List PV)(d:α){n:Int}(b m:Nat)(hm:n=(m:Int))(h:b*m≤140737488355328)(hb:Nat.ble 1 b=true) :
  n=(m:Int)∧n=(m:Int)∧b*m≤140737488355328∧m<9223372036854775808∧(List.replicate m (enc d)).flatten=((List.replicate m d).map enc).flatten:=⟨hm,hm,h,KG h hb,Rg rfl⟩
theorem TM(hs:Sz enc sz)(xs:List α){a b:Int}(h1:a=(l:Int))(h2:b=(u:Int))(h3:l≤u)(h4:u≤xs.length) :
  a=(l:Int)∧b=(u:Int)∧l≤u∧u≤(xs.map enc).length∧((xs.map enc).take u).drop l=((xs.take u).drop l).map enc∧∀row∈((xs.take u).drop l).map enc,row.length=sz :=
 ⟨h1,h2,h3,P2 h4,Rf,rP hs⟩
theorem wL(hs:Sz enc sz)(xs:List α){b:Int}(h2:b=(u:Int))(h4:u≤xs.length) :
  ((0:Nat):Int)=((0:Nat):Int)∧b=(u:Int)∧0≤u∧u≤(xs.map enc).length∧((xs.map enc).take u).drop 0=(xs.take u).map enc∧∀row∈(xs.take u).map enc,row.length=sz :=
 ⟨rfl,h2,Nat.zero_le _,P2 h4,OO,rP hs⟩
theorem TN(hs:Sz enc sz)(xs:List α){a:Int}(h1:a=(l:Int))(h3:l≤xs.length) :
  a=(l:Int)∧((xs.map enc).length:Int)=(xs.length:Int)∧l≤xs.length∧xs.length≤(xs.map enc).length∧((xs.map enc).take xs.length).drop l=(xs.drop l).map enc∧∀row∈(xs.drop l).map enc,row.length=sz :=
 ⟨h1,by simp,h3,by simp,by rw[List.take_of_length_le (by simp),List.map_drop],rP hs⟩
theorem hJ(hs:Sz enc sz)(xs:List α)(v:α)(h:k<xs.length):(0+k*sz)+((enc v).map EV.pv).length≤(((xs.map enc).flatten).map EV.pv).length∧fk (((xs.map enc).flatten).map EV.pv) (0+k*sz) ((enc v).map EV.pv)=(((xs.set k v).map enc).flatten).map EV.pv :=
 ⟨Br hs h,Ml hs h⟩
theorem rQ(hs:Sz enc sz)(xs ys:List α)(b:Nat)(hx:xs.length=n)(h:(xs++ys).length*b≤140737488355328)(hb:Nat.ble 1 b=true) :
  ((xs.map enc).flatten).length=n*sz∧(∀row∈ys.map enc,row.length=sz)∧n+(ys.map enc).length=(xs++ys).length∧(xs.map enc).flatten++(ys.map enc).flatten=((xs++ys).map enc).flatten ∧
   (xs++ys).length*b≤140737488355328∧(xs++ys).length<9223372036854775808 :=
 ⟨by rw[pN hs,hx],rP hs,by rw[←hx];exact H7,Mm,h,wK h hb⟩
theorem iK(hs:Sz enc sz)(xs ys:List α)(b:Nat)(hx:xs.length=n)(hy:ys.length=m)(h:(xs++ys).length*b≤140737488355328)(hb:Nat.ble 1 b=true) :
  ((xs.map enc).flatten).length=n*sz∧((ys.map enc).flatten).length=m*sz∧n+m=(xs++ys).length∧(xs.map enc).flatten++(ys.map enc).flatten=((xs++ys).map enc).flatten ∧
   (xs++ys).length*b≤140737488355328∧(xs++ys).length<9223372036854775808 :=
 ⟨by rw[pN hs,hx],by rw[pN hs,hy],by rw[←hx,←hy];exact F6,Mm,h,wK h hb⟩
theorem Rh(hs:Sz enc sz)(xs:List α)(d:α)(b m:Nat){q:Int}(hx:xs.length=n)(hm:q=(m:Int))(h:(xs++List.replicate m d).length*b≤140737488355328)(hb:Nat.ble 1 b=true) :
  ((xs.map enc).flatten).length=n*sz∧n≤(xs++List.replicate m d).length∧q=(((xs++List.replicate m d).length-n:Nat):Int)∧(xs.map enc).flatten++(List.replicate ((xs++List.replicate m d).length-n) (enc d)).flatten=((xs++List.replicate m d).map enc).flatten ∧
   (xs++List.replicate m d).length*b≤140737488355328∧(xs++List.replicate m d).length<9223372036854775808:=by
 have e:(xs++List.replicate m d).length-n=m:=by rw[List.length_append,List.length_replicate];omega
 refine⟨by rw[pN hs,hx],by rw[List.length_append];omega,by rw[e];exact hm,?_,h,wK h hb⟩
 rw[e,List.map_append,List.flatten_append,List.map_replicate]
theorem df(hs:Sz enc sz)(xs:List α)(h:n=xs.length):n=(xs.map enc).length∧(xs.map enc).flatten=(xs.map enc).flatten∧∀row∈xs.map enc,row.length=sz:=⟨OQ h,rfl,rP hs⟩
theorem uW(hs:Sz enc sz)(xs:List α)(k:Nat):((xs.map enc).flatten).take (k*sz)=((xs.take k).map enc).flatten:=ud hs xs k
theorem Mn(hs:Sz enc sz)(xs ys:List α)(h:min ys.length n=k)(hk:k≤xs.length):(∀row∈ys.map enc,row.length=sz)∧min (ys.map enc).length n=k∧0+k*sz≤((xs.map enc).flatten).length ∧
  fk ((xs.map enc).flatten) 0 (((ys.map enc).flatten).take (k*sz))=((ys.take k++xs.drop k).map enc).flatten:=by
 refine⟨rP hs,by simpa using h,by rw[pN hs,Nat.zero_add];exact Nat.mul_le_mul_right _ hk,?_⟩
 have hy:k≤ys.length:=by omega
 rw[ud hs]
 unfold fk
 rw[List.take_zero,List.nil_append,Nat.zero_add,pN hs,List.length_take,Nat.min_eq_left hy,qX hs]
 simp
theorem vv(x y:Nat):(if (y:Int)>(x:Int) then (y:Int) else (x:Int))=((max x y:Nat):Int):=Wt
theorem H8(a b:Int):(if b>a then b else a)=max a b:=Wu
theorem vw{f:α→PV}(he:∀a,enc a=[f a])(h:xs[off+k]? = some v):(((xs.map enc).flatten).map EV.pv)[off+k*1]? = some (.pv (f v)):=by
 have:=Mk (xs:=xs) (k:=off+k) he h
 rw[Nat.mul_one]
 rw[Nat.zero_add,Nat.mul_one] at this
 exact this
theorem Mo(hs:Sz enc 1)(xs:List α)(v:α)(off k:Nat)(h:off+k<xs.length):(off+k*1)+((enc v).map EV.pv).length≤(((xs.map enc).flatten).map EV.pv).length∧fk (((xs.map enc).flatten).map EV.pv) (off+k*1) ((enc v).map EV.pv)=(((xs.set (off+k) v).map enc).flatten).map EV.pv:=by
 have h1:=Br (k:=off+k) (v:=v) hs h
 have h2:=Ml (k:=off+k) (v:=v) hs h
 rw[Nat.zero_add,Nat.mul_one] at h1 h2
 rw[Nat.mul_one]
 exact⟨h1,h2⟩
theorem F7(xs:List α){b:Int}(h:b=(k:Int))(hk:k≤xs.length):((0:Nat):Int)=((0:Nat):Int)∧b=(((xs.take k).length:Nat):Int)∧(0=0∨0<(xs.take k).length)∧0≤(xs.take k).length∧(xs.take k).length≤xs.length :=
 ⟨rfl,TL h hk,.inl rfl,Nat.zero_le _,OP⟩
theorem TO{a b:Int}(h1:a=(l:Int))(h2:b=(u:Int))(h3:l=0∨l<u)(h4:l≤u)(h5:u≤n):a=(l:Int)∧b=(u:Int)∧(l=0∨l<u)∧l≤u∧u≤n:=⟨h1,h2,h3,h4,h5⟩
theorem OR{x:Int}{op:BinOp}{q r:PV}(h:x=(k:Int))(hb:eC true op (.int .i64 (k:Int)) q=some r):eC true op (.int .i64 x) q=some r:=by rw[h];exact hb
theorem OS{x:Int}{op:BinOp}{p r:PV}{kk:IntKind}(h:x=(k:Int))(hb:eC true op p (.int kk (k:Int))=some r):eC true op p (.int kk x)=some r:=by rw[h];exact hb
end
end Go.Proofs.YtllmkadmohkbfaaGreatDoor.Sym
