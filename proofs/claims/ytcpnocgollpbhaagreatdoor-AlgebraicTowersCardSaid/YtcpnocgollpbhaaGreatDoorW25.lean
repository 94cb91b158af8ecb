/- Lemmas for the statements of this seat. -/
import Derived.Test.YtcpnocgollpbhaaGreatDoorW24
namespace Go.Proofs.YtcpnocgollpbhaaGreatDoor.Sym
open Go
def ay(n:Int):Prop := -9223372036854775808≤n∧n<9223372036854775808
theorem wrap_i64{n:Int}(h:ay n):IntKind.i64.wrap n=n:=by
 obtain⟨h1,h2⟩:=h;have e:IntKind.i64.wrap n=(if (true&&decide (n%18446744073709551616≥9223372036854775808))=true then n%18446744073709551616-18446744073709551616 else n%18446744073709551616):=rfl;rw[e];by_cases hn:n%18446744073709551616≥9223372036854775808
 ·simp[hn];omega
 ·simp[hn];omega
theorem wrap_u64(n:Int):IntKind.u64.wrap n=n%18446744073709551616:=rfl
theorem wrap_u32(n:Int):IntKind.u32.wrap n=n%4294967296:=rfl
section
variable {a b:Int} {x y z r:Nat}
theorem yi{a b:ByteArray}(h:a.size+b.size<9223372036854775808):eE true .add (.str a) (.str b)=some (.str (a++b)):=by simp[eE,Cn,h]
theorem sX{a b:ByteArray}(h:a=b):decide (a=b)=true:=ag6 h
theorem rO(h:ay (a+b)):eE true .add (.int .i64 a) (.int .i64 b)=some (.int .i64 (a+b)):=by show some (PV.int .i64 (IntKind.i64.wrap (a+b)))=_;rw[wrap_i64 h]
theorem aQ(h:ay (a-b)):eE true .sub (.int .i64 a) (.int .i64 b)=some (.int .i64 (a-b)):=by show some (PV.int .i64 (IntKind.i64.wrap (a-b)))=_;rw[wrap_i64 h]
theorem pL(h:ay (a*b)):eE true .mul (.int .i64 a) (.int .i64 b)=some (.int .i64 (a*b)):=by show some (PV.int .i64 (IntKind.i64.wrap (a*b)))=_;rw[wrap_i64 h]
theorem aJ(h:x+y<9223372036854775808):eE true .add (.int .i64 (x:Int)) (.int .i64 (y:Int))=some (.int .i64 ((x+y:Nat):Int)):=by rw[rO (by unfold ay;omega)];simp
theorem LY(h:x*y<9223372036854775808):eE true .mul (.int .i64 (x:Int)) (.int .i64 (y:Int))=some (.int .i64 ((x*y:Nat):Int)):=by rw[pL (by rw[show (x:Int)*(y:Int)=((x*y:Nat):Int) from by simp];unfold ay;omega)];simp
theorem cC(h:y≠0)(h2:x<9223372036854775808):eE true .quo (.int .i64 (x:Int)) (.int .i64 (y:Int))=some (.int .i64 ((x/y:Nat):Int)):=by
 have h1:decide ((y:Int)=0)=false:=by simp[h]
 show(bif decide ((y:Int)=0) then none else some (PV.int .i64 (IntKind.i64.wrap ((x:Int).tdiv (y:Int)))))=_;have h3:(x:Int).tdiv (y:Int)=((x/y:Nat):Int):=by simp
 have h4:x/y≤x:=agP _ _;rw[h1,h3,wrap_i64 (by generalize x/y=q at *;unfold ay;omega)];rfl
theorem LZ(h:y≠0):eE true .rem (.int .i64 (x:Int)) (.int .i64 (y:Int))=some (.int .i64 ((x%y:Nat):Int)):=by
 have h1:decide ((y:Int)=0)=false:=by simp[h]
 show(bif decide ((y:Int)=0) then none else some (PV.int .i64 ((x:Int).tmod (y:Int))))=_;have h3:(x:Int).tmod (y:Int)=((x%y:Nat):Int):=by rw[aiY (by omega)];simp
 rw[h1,h3];rfl
theorem bS{k:IntKind}(hy:y≤64)(h:x*2^y<9223372036854775808):eE true .shl (.int .i64 (x:Int)) (.int k (y:Int))=some (.int .i64 ((x*2^y:Nat):Int)):=by
 have h1:decide ((y:Int)<0)=false:=by simp
 show(bif decide ((y:Int)<0) then none else some (PV.int .i64 (IntKind.i64.wrap ((x:Int)*2^(min y 64)))))=_;have e:(x:Int)*2^y=((x*2^y:Nat):Int):=by simp
 rw[h1,agx hy,e,wrap_i64 (by generalize x*2^y=q at *;unfold ay;omega)];rfl
theorem dM(h:(x+y)%18446744073709551616=r):eE true .add (.int .u64 (x:Int)) (.int .u64 (y:Int))=some (.int .u64 (r:Int)):=by subst h;show some (PV.int .u64 (((x:Int)+(y:Int))%18446744073709551616))=_;simp
theorem nF(h:(x*y)%18446744073709551616=r):eE true .mul (.int .u64 (x:Int)) (.int .u64 (y:Int))=some (.int .u64 (r:Int)):=by subst h;show some (PV.int .u64 (((x:Int)*(y:Int))%18446744073709551616))=_;simp
theorem dB(h:((x:Int)-(y:Int))%18446744073709551616=(r:Int)):eE true .sub (.int .u64 (x:Int)) (.int .u64 (y:Int))=some (.int .u64 (r:Int)):=by rw[←h];rfl
theorem Db(hy:y≠0)(h:(x/y)%18446744073709551616=r):eE true .quo (.int .u64 (x:Int)) (.int .u64 (y:Int))=some (.int .u64 (r:Int)):=by
 have h1:decide ((y:Int)=0)=false:=by simp[hy]
 show(bif decide ((y:Int)=0) then none else some (PV.int .u64 (((x:Int).tdiv (y:Int))%18446744073709551616)))=_;have h3:(x:Int).tdiv (y:Int)=((x/y:Nat):Int):=by simp
 rw[h1,h3,←h];simp
theorem Dc(hy:y≠0)(h:x%y=r):eE true .rem (.int .u64 (x:Int)) (.int .u64 (y:Int))=some (.int .u64 (r:Int)):=by
 have h1:decide ((y:Int)=0)=false:=by simp[hy]
 show(bif decide ((y:Int)=0) then none else some (PV.int .u64 ((x:Int).tmod (y:Int))))=_;have h3:(x:Int).tmod (y:Int)=((x%y:Nat):Int):=by rw[aiY (by omega)];simp
 rw[h1,h3,←h];simp
theorem nG(h:(x%18446744073709551616) ||| (y%18446744073709551616)=r):eE true .or (.int .u64 (x:Int)) (.int .u64 (y:Int))=some (.int .u64 (r:Int)):=by
 show some (PV.int .u64 (((BitVec.ofInt 64 (x:Int) ||| BitVec.ofInt 64 (y:Int)).toNat:Int)%18446744073709551616))=_;have h2:(BitVec.ofInt 64 (x:Int) ||| BitVec.ofInt 64 (y:Int)).toNat=r:=by rw[←h];simp[BitVec.toNat_or]
 have h3:=(BitVec.ofInt 64 (x:Int) ||| BitVec.ofInt 64 (y:Int)).isLt;rw[h2] at h3 ⊢
 congr 2;omega
theorem jk{k:IntKind}(h:(x*2^(min y 64))%18446744073709551616=r):eE true .shl (.int .u64 (x:Int)) (.int k (y:Int))=some (.int .u64 (r:Int)):=by
 have h1:decide ((y:Int)<0)=false:=by simp
 show(bif decide ((y:Int)<0) then none else some (PV.int .u64 (((x:Int)*2^(min y 64))%18446744073709551616)))=_;rw[h1,←h];simp
theorem cS{k:IntKind}(h:x/2^(min y 64)=r):eE true .shr (.int .u64 (x:Int)) (.int k (y:Int))=some (.int .u64 (r:Int)):=by
 have h1:decide ((y:Int)<0)=false:=by simp
 show(bif decide ((y:Int)<0) then none else some (PV.int .u64 ((x:Int).fdiv (2^(min y 64)))))=_;rw[h1,←h,aiZ _ (by exact_mod_cast ag0 _)];simp
theorem vt(h:(x%4294967296) ||| (y%4294967296)=r):eE true .or (.int .u32 (x:Int)) (.int .u32 (y:Int))=some (.int .u32 (r:Int)):=by
 show some (PV.int .u32 (((BitVec.ofInt 32 (x:Int) ||| BitVec.ofInt 32 (y:Int)).toNat:Int)%4294967296))=_;have h2:(BitVec.ofInt 32 (x:Int) ||| BitVec.ofInt 32 (y:Int)).toNat=r:=by rw[←h];simp[BitVec.toNat_or]
 have h3:=(BitVec.ofInt 32 (x:Int) ||| BitVec.ofInt 32 (y:Int)).isLt;rw[h2] at h3 ⊢
 congr 2;omega
theorem gz(h:(x%4294967296) &&& (y%4294967296)=r):eE true .and (.int .u32 (x:Int)) (.int .u32 (y:Int))=some (.int .u32 (r:Int)):=by
 show some (PV.int .u32 (((BitVec.ofInt 32 (x:Int) &&& BitVec.ofInt 32 (y:Int)).toNat:Int)%4294967296))=_;have h2:(BitVec.ofInt 32 (x:Int) &&& BitVec.ofInt 32 (y:Int)).toNat=r:=by rw[←h];simp[BitVec.toNat_and]
 have h3:=(BitVec.ofInt 32 (x:Int) &&& BitVec.ofInt 32 (y:Int)).isLt;rw[h2] at h3 ⊢
 congr 2;omega
theorem Dd{k:IntKind}(h:(x*2^(min y 32))%4294967296=r):eE true .shl (.int .u32 (x:Int)) (.int k (y:Int))=some (.int .u32 (r:Int)):=by
 have h1:decide ((y:Int)<0)=false:=by simp
 show(bif decide ((y:Int)<0) then none else some (PV.int .u32 (((x:Int)*2^(min y 32))%4294967296)))=_;rw[h1,←h];simp
theorem lQ{k:IntKind}(h:x/2^(min y 32)=r):eE true .shr (.int .u32 (x:Int)) (.int k (y:Int))=some (.int .u32 (r:Int)):=by
 have h1:decide ((y:Int)<0)=false:=by simp
 show(bif decide ((y:Int)<0) then none else some (PV.int .u32 ((x:Int).fdiv (2^(min y 32)))))=_;rw[h1,←h,aiZ _ (by exact_mod_cast ag0 _)];simp
theorem De(h:ay (-a)):EZ .neg (.int .i64 a)=some (.int .i64 (-a)):=by show some (PV.int .i64 (IntKind.i64.wrap (0-a)))=_;rw[Int.zero_sub,wrap_i64 h]
theorem Df(h:(0-(x:Int))%18446744073709551616=(r:Int)):EZ .neg (.int .u64 (x:Int))=some (.int .u64 (r:Int)):=by rw[←h];rfl
theorem Gy(h:a%18446744073709551616=(r:Int)):IntKind.u64.wrap a=(r:Int):=h
theorem cL(h:x%4294967296=r):IntKind.u32.wrap (x:Int)=(r:Int):=by rw[←h];simp[wrap_u32]
theorem Gz(h:x%256=r):IntKind.u8.wrap (x:Int)=(r:Int):=by
 have e:∀n:Int,IntKind.u8.wrap n=n%256:=fun n=>rfl
 rw[e,←h];simp
theorem BP(h:x<9223372036854775808):IntKind.i64.wrap (x:Int)=(x:Int):=wrap_i64 (by unfold ay;omega)
theorem n8(v:UInt32):IntKind.u64.wrap (v.toNat:Int)=(v.toNat:Int):=by have:=v.toNat_lt;rw[wrap_u64];omega
theorem Xs(v:UInt32):IntKind.i64.wrap (v.toNat:Int)=(v.toNat:Int):=by have:=v.toNat_lt;exact wrap_i64 (by unfold ay;omega)
theorem bA(h:a<b):decide (a<b)=true:=ag6 h
theorem bm(h:b≤a):decide (a<b)=false:=ag5 (Int.not_lt.2 h)
theorem bg(h:a≤b):decide (a≤b)=true:=ag6 h
theorem fc(h:b<a):decide (a≤b)=false:=ag5 (Int.not_le.2 h)
theorem aU(h:a=b):(a==b)=true:=by simp[h]
theorem bf(h:a≠b):(a==b)=false:=by simp[h]
theorem kg(h:a≠b):(a != b)=true:=by simp[h]
theorem gr(h:a=b):(a != b)=false:=by simp[h]
theorem ai(h:x<y):decide ((x:Int)<(y:Int))=true:=ag6 (Int.ofNat_lt.2 h)
theorem ar(h:y≤x):decide ((x:Int)<(y:Int))=false:=bm (aiI.2 h)
theorem cI(h:x≤y):decide ((x:Int)≤(y:Int))=true:=ag6 (aiI.2 h)
theorem bn(h:y<x):decide ((x:Int)≤(y:Int))=false:=fc (Int.ofNat_lt.2 h)
theorem aM(h:x=y):((x:Int)==(y:Int))=true:=by simp[h]
theorem aB(h:x≠y):((x:Int)==(y:Int))=false:=bf (by omega)
theorem dj(h:x≠y):((x:Int) != (y:Int))=true:=kg (by omega)
theorem dk(h:x=y):((x:Int) != (y:Int))=false:=by simp[h]
theorem dm{p:Bool}(h:p=false):(!p)=true:=by simp[h]
theorem bw{p:Bool}(h:p=true):(!p)=false:=by simp[h]
theorem qR{p q:Bool}(h:p=q):(p==q)=true:=by simp[h]
theorem wz{p q:Bool}(h:p≠q):(p==q)=false:=by simp[h]
theorem aa0:(if (y:Int)>(x:Int) then (y:Int) else (x:Int))=((max x y:Nat):Int):=by split<;>omega
theorem aa1:(if b>a then b else a)=max a b:=by split<;>omega
end
section
variable {α:Type} {enc:α→List PV} {xs ys:List α} {k l u n m sz off:Nat} {v d:α}
def Sz(enc:α→List PV)(sz:Nat):Prop:=∀a,(enc a).length=sz
theorem bc:Sz aj 1:=fun _=>rfl
theorem Dg:Sz gX 1:=fun _=>rfl
theorem Pn:Sz kE 1:=fun _=>rfl
theorem iM(enc:α→List PV):Sz (bp enc) 1:=fun _=>rfl
theorem Xt(h:xs[k]? = some v):(xs.map enc)[k]? = some (enc v):=by simp[h]
theorem qS(hs:Sz enc sz):∀xs:List α,((xs.map enc).flatten).length=xs.length*sz
 |[]=>by simp
 |x::xs=>by simp[qS hs xs,hs x,Nat.add_mul,Nat.add_comm]
theorem si(hs:Sz enc sz):∀(xs:List α) (k:Nat),((xs.map enc).flatten).drop (k*sz)=((xs.drop k).map enc).flatten
 |[],k=>by simp
 |x::xs,0=>by simp
 |x::xs,k+1=>by rw[List.drop_succ_cons,←si hs xs k,agk,agY,ahb,aiu,←aj6,List.drop_left' (hs x)]
theorem vu(hs:Sz enc sz):∀(xs:List α) (k:Nat),((xs.map enc).flatten).take (k*sz)=((xs.take k).map enc).flatten
 |[],k=>by simp
 |x::xs,0=>by simp
 |x::xs,k+1=>by
  have h:(k+1)*sz=(enc x).length+k*sz:=by rw[hs x,ahb,aiu]
  rw[List.take_succ_cons,agk,agk,agY,agY,←vu hs xs k,h,List.take_length_add_append]
theorem Po{f:α→PV}(he:∀a,enc a=[f a])(h:xs[k]? = some v):(((xs.map enc).flatten).map EV.pv)[0+k*1]? = some (.pv (f v)):=by
 have hs:Sz enc 1:=fun a=>by rw[he];rfl
 have h1:=si hs xs k;have hk:k<xs.length:=(afs.1 h).1;have hv:xs[k]=v:=by have:=afp hk;rw[h] at this;injection this with this;exact this.symm
 have h2:((xs.map enc).flatten)[k*1]? = some (f v):=by
  have:(((xs.map enc).flatten).drop (k*1))[0]? = some (f v):=by rw[h1,ah3 hk,hv];simp[he]
  rw[agn] at this;simpa using this
 rw[agl,afu,h2];rfl
theorem UW(hs:Sz enc sz)(h:xs[k]? = some v):((((xs.map enc).flatten).map EV.pv).drop (0+k*sz)).take sz=(enc v).map EV.pv:=by
 have hk:k<xs.length:=(afs.1 h).1;have hv:xs[k]=v:=by have:=afp hk;rw[h] at this;injection this with this;exact this.symm
 rw[agl,←aiR,←ahh,si hs,ah3 hk,hv,agk,agY,List.take_left' (hs v)]
theorem Np(hs:Sz enc sz)(h:k<xs.length):fg ((xs.map enc).flatten) (k*sz) (enc v)=((xs.set k v).map enc).flatten:=by unfold fg;have h1:(enc v).length=sz:=hs v;rw[h1,vu hs,show k*sz+sz=(k+1)*sz from(ahb k sz).symm,si hs,List.set_eq_take_append_cons_drop,afI h];simp
theorem Pp(hs:Sz enc sz)(h:k<xs.length):fg (((xs.map enc).flatten).map EV.pv) (0+k*sz) ((enc v).map EV.pv)=(((xs.set k v).map enc).flatten).map EV.pv:=by rw[←Np hs h,agl];simp[fg,List.map_drop,List.map_take]
theorem Dh(hs:Sz enc sz)(h:k<xs.length):(0+k*sz)+((enc v).map EV.pv).length≤(((xs.map enc).flatten).map EV.pv).length:=by
 rw[agl,afq,afq,hs v,qS hs]
 calc k*sz+sz=(k+1)*sz:=(ahb k sz).symm
  _≤xs.length*sz:=afw _ h
theorem sY(hs:Sz enc sz):∀row∈xs.map enc,row.length=sz:=by intro row h;obtain⟨a,_,rfl⟩:=agj.1 h;exact hs a
theorem Pq:(xs.map enc).flatten++(ys.map enc).flatten=((xs++ys).map enc).flatten:=by simp
theorem KC:xs.length+(ys.map enc).length=(xs++ys).length:=by simp
theorem IC:xs.length+ys.length=(xs++ys).length:=by simp
theorem UX:((xs.map enc).take u).drop l=((xs.take u).drop l).map enc:=by simp[List.map_drop,List.map_take]
theorem R5:((xs.map enc).take u).drop 0=(xs.take u).map enc:=by simp[List.map_take]
theorem Ty(h:k≤xs.length):k≤(xs.map enc).length:=by simpa using h
theorem Xu{b:Int}(h:b=(k:Int))(hk:k≤xs.length):b=(((xs.take k).length:Nat):Int):=by rw[h,afK];omega
theorem R6:(xs.take k).length≤xs.length:=by rw[afK];omega
theorem yj{b:Nat}(h:n*b≤140737488355328)(hb:Nat.ble 1 b=true):n<9223372036854775808:=by have h1:1≤b:=afv hb;have h2:n*1≤n*b:=afO n h1;omega
theorem Nq{b:Nat}(h:b*n≤140737488355328)(hb:Nat.ble 1 b=true):n<9223372036854775808:=yj (by rw[agr];exact h) hb
theorem UY{z:List PV}(h:z=enc d):(List.replicate m z).flatten=((List.replicate m d).map enc).flatten:=by simp[h]
theorem R7(h:n=xs.length):n=(xs.map enc).length:=by simpa using h
theorem an(enc:α→List PV)(xs:List α):((xs.map enc).length:Int)=(xs.length:Int):=by simp
theorem ba(enc:α→List PV){i:Int}(hi:i=(k:Int))(h:xs[k]? = some v):i=(k:Int)∧(xs.map enc)[k]? = some (enc v)∧(enc v).length=(enc v).length:=⟨hi,Xt h,rfl⟩
theorem kV(hs:Sz enc sz)(X:List α):(X.map enc).flatten=(X.map enc).flatten∧(X.map enc).length=(X.map enc).length∧∀row∈X.map enc,row.length=sz:=⟨rfl,rfl,sY hs⟩
theorem tL(hs:Sz enc sz)(h:xs[k]? = some v):((((xs.map enc).flatten).map EV.pv).drop (0+k*sz)).take sz=(enc v).map EV.pv∧(enc v).length=(enc v).length:=⟨UW hs h,rfl⟩
theorem fK{f:α→PV}(he:∀a,enc a=[f a])(h:xs[k]? = some v):(((xs.map enc).flatten).map EV.pv)[0+k*1]? = some (.pv (f v)):=Po he h
theorem sj(enc:α→List PV)(d:α){n:Int}(b m:Nat)(hm:n=(m:Int))(h:b*m≤140737488355328)(hb:Nat.ble 1 b=true) :
  n=(m:Int)∧n=(m:Int)∧b*m≤140737488355328∧m<9223372036854775808∧(List.replicate m (enc d)).flatten=((List.replicate m d).map enc).flatten:=⟨hm,hm,h,Nq h hb,UY rfl⟩
theorem R8(hs:Sz enc sz)(xs:List α){a b:Int}(h1:a=(l:Int))(h2:b=(u:Int))(h3:l≤u)(h4:u≤xs.length) :
  a=(l:Int)∧b=(u:Int)∧l≤u∧u≤(xs.map enc).length∧((xs.map enc).take u).drop l=((xs.take u).drop l).map enc∧∀row∈((xs.take u).drop l).map enc,row.length=sz :=
 ⟨h1,h2,h3,Ty h4,UX,sY hs⟩
theorem fY(hs:Sz enc sz)(xs:List α){b:Int}(h2:b=(u:Int))(h4:u≤xs.length) :
  ((0:Nat):Int)=((0:Nat):Int)∧b=(u:Int)∧0≤u∧u≤(xs.map enc).length∧((xs.map enc).take u).drop 0=(xs.take u).map enc∧∀row∈(xs.take u).map enc,row.length=sz :=
 ⟨rfl,h2,ag0 _,Ty h4,R5,sY hs⟩
theorem mD(hs:Sz enc sz)(xs:List α){a:Int}(h1:a=(l:Int))(h3:l≤xs.length) :
  a=(l:Int)∧((xs.map enc).length:Int)=(xs.length:Int)∧l≤xs.length∧xs.length≤(xs.map enc).length∧((xs.map enc).take xs.length).drop l=(xs.drop l).map enc∧∀row∈(xs.drop l).map enc,row.length=sz :=
 ⟨h1,by simp,h3,by simp,by rw[List.take_of_length_le (by simp),List.map_drop],sY hs⟩
theorem gu(hs:Sz enc sz)(xs:List α)(v:α)(h:k<xs.length):(0+k*sz)+((enc v).map EV.pv).length≤(((xs.map enc).flatten).map EV.pv).length∧fg (((xs.map enc).flatten).map EV.pv) (0+k*sz) ((enc v).map EV.pv)=(((xs.set k v).map enc).flatten).map EV.pv :=
 ⟨Dh hs h,Pp hs h⟩
theorem iw(hs:Sz enc sz)(xs ys:List α)(b:Nat)(hx:xs.length=n)(h:(xs++ys).length*b≤140737488355328)(hb:Nat.ble 1 b=true) :
  ((xs.map enc).flatten).length=n*sz∧(∀row∈ys.map enc,row.length=sz)∧n+(ys.map enc).length=(xs++ys).length∧(xs.map enc).flatten++(ys.map enc).flatten=((xs++ys).map enc).flatten ∧
   (xs++ys).length*b≤140737488355328∧(xs++ys).length<9223372036854775808 :=
 ⟨by rw[qS hs,hx],sY hs,by rw[←hx];exact KC,Pq,h,yj h hb⟩
theorem fv(hs:Sz enc sz)(xs ys:List α)(b:Nat)(hx:xs.length=n)(hy:ys.length=m)(h:(xs++ys).length*b≤140737488355328)(hb:Nat.ble 1 b=true) :
  ((xs.map enc).flatten).length=n*sz∧((ys.map enc).flatten).length=m*sz∧n+m=(xs++ys).length∧(xs.map enc).flatten++(ys.map enc).flatten=((xs++ys).map enc).flatten ∧
   (xs++ys).length*b≤140737488355328∧(xs++ys).length<9223372036854775808 :=
 ⟨by rw[qS hs,hx],by rw[qS hs,hy],by rw[←hx,←hy];exact IC,Pq,h,yj h hb⟩
theorem UZ(hs:Sz enc sz)(xs:List α)(d:α)(b m:Nat){q:Int}(hx:xs.length=n)(hm:q=(m:Int))(h:(xs++List.replicate m d).length*b≤140737488355328)(hb:Nat.ble 1 b=true) :
  ((xs.map enc).flatten).length=n*sz∧n≤(xs++List.replicate m d).length∧q=(((xs++List.replicate m d).length-n:Nat):Int)∧(xs.map enc).flatten++(List.replicate ((xs++List.replicate m d).length-n) (enc d)).flatten=((xs++List.replicate m d).map enc).flatten ∧
   (xs++List.replicate m d).length*b≤140737488355328∧(xs++List.replicate m d).length<9223372036854775808:=by
 have e:(xs++List.replicate m d).length-n=m:=by rw[afW,agy];omega
 refine⟨by rw[qS hs,hx],by rw[afW];omega,by rw[e];exact hm,?_,h,yj h hb⟩;rw[e,agd,List.flatten_append,aj1]
theorem bU(hs:Sz enc sz)(xs:List α)(h:n=xs.length):n=(xs.map enc).length∧(xs.map enc).flatten=(xs.map enc).flatten∧∀row∈xs.map enc,row.length=sz:=⟨R7 h,rfl,sY hs⟩
theorem uz(hs:Sz enc sz)(xs:List α)(k:Nat):((xs.map enc).flatten).take (k*sz)=((xs.take k).map enc).flatten:=vu hs xs k
theorem Pr(hs:Sz enc sz)(xs ys:List α)(h:min ys.length n=k)(hk:k≤xs.length):(∀row∈ys.map enc,row.length=sz)∧min (ys.map enc).length n=k∧0+k*sz≤((xs.map enc).flatten).length ∧
  fg ((xs.map enc).flatten) 0 (((ys.map enc).flatten).take (k*sz))=((ys.take k++xs.drop k).map enc).flatten:=by
 refine⟨sY hs,by simpa using h,by rw[qS hs,Nat.zero_add];exact afw _ hk,?_⟩;have hy:k≤ys.length:=by omega
 rw[vu hs];unfold fg;rw[List.take_zero,ahp,agl,qS hs,afK,agx hy,si hs];simp
theorem oK(x y:Nat):(if (y:Int)>(x:Int) then (y:Int) else (x:Int))=((max x y:Nat):Int):=aa0
theorem KD(a b:Int):(if b>a then b else a)=max a b:=aa1
theorem xb{f:α→PV}(he:∀a,enc a=[f a])(h:xs[off+k]? = some v):(((xs.map enc).flatten).map EV.pv)[off+k*1]? = some (.pv (f v)):=by have:=Po (xs:=xs) (k:=off+k) he h;rw[ahF];rw[agl,ahF] at this;exact this
theorem Ps(hs:Sz enc 1)(xs:List α)(v:α)(off k:Nat)(h:off+k<xs.length):(off+k*1)+((enc v).map EV.pv).length≤(((xs.map enc).flatten).map EV.pv).length∧fg (((xs.map enc).flatten).map EV.pv) (off+k*1) ((enc v).map EV.pv)=(((xs.set (off+k) v).map enc).flatten).map EV.pv:=by have h1:=Dh (k:=off+k) (v:=v) hs h;have h2:=Pp (k:=off+k) (v:=v) hs h;rw[agl,ahF] at h1 h2;rw[ahF];exact⟨h1,h2⟩
theorem ID(xs:List α){b:Int}(h:b=(k:Int))(hk:k≤xs.length):((0:Nat):Int)=((0:Nat):Int)∧b=(((xs.take k).length:Nat):Int)∧(0=0∨0<(xs.take k).length)∧0≤(xs.take k).length∧(xs.take k).length≤xs.length :=
 ⟨rfl,Xu h hk,.inl rfl,ag0 _,R6⟩
theorem Xv{a b:Int}(h1:a=(l:Int))(h2:b=(u:Int))(h3:l=0∨l<u)(h4:l≤u)(h5:u≤n):a=(l:Int)∧b=(u:Int)∧(l=0∨l<u)∧l≤u∧u≤n:=⟨h1,h2,h3,h4,h5⟩
theorem Nr{x:Int}{op:BinOp}{q r:PV}(h:x=(k:Int))(hb:eE true op (.int .i64 (k:Int)) q=some r):eE true op (.int .i64 x) q=some r:=by rw[h];exact hb
theorem Ns{x:Int}{op:BinOp}{p r:PV}{kk:IntKind}(h:x=(k:Int))(hb:eE true op p (.int kk (k:Int))=some r):eE true op p (.int kk x)=some r:=by rw[h];exact hb
end
end Go.Proofs.YtcpnocgollpbhaaGreatDoor.Sym
