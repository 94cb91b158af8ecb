/- Bezout and Accepts of the program answer as the reference does. -/
import Derived.Test.YtboilcfohmmpbaaGreatDoorYTypes
namespace Go.Proofs.YtboilcfohmmpbaaGreatDoor.Sym
open Go
def InI64(n:Int):Prop := -9223372036854775808≤n∧n<9223372036854775808
theorem wrap_i64{n:Int}(h:InI64 n):IntKind.i64.wrap n=n:=by
 obtain⟨h1,h2⟩:=h
 have e:IntKind.i64.wrap n=(if (true&&decide (n%18446744073709551616≥9223372036854775808))=true then n%18446744073709551616-18446744073709551616 else n%18446744073709551616):=rfl
 rw[e]
 by_cases hn:n%18446744073709551616≥9223372036854775808
 ·simp[hn];omega
 ·simp[hn];omega
theorem wrap_u64(n:Int):IntKind.u64.wrap n=n%18446744073709551616:=rfl
theorem wrap_u32(n:Int):IntKind.u32.wrap n=n%4294967296:=rfl
section
variable {a b:Int} {x y z r:Nat}
theorem bs_sadd{a b:ByteArray}(h:a.size+b.size<9223372036854775808):binSem true .add (.str a) (.str b)=some (.str (a++b)):=by
 simp[binSem,strSem,h]
theorem dseq_t{a b:ByteArray}(h:a=b):decide (a=b)=true:=decide_eq_true h
theorem bs_add(h:InI64 (a+b)):binSem true .add (.int .i64 a) (.int .i64 b)=some (.int .i64 (a+b)):=by
 show some (PV.int .i64 (IntKind.i64.wrap (a+b)))=_
 rw[wrap_i64 h]
theorem bs_sub(h:InI64 (a-b)):binSem true .sub (.int .i64 a) (.int .i64 b)=some (.int .i64 (a-b)):=by
 show some (PV.int .i64 (IntKind.i64.wrap (a-b)))=_
 rw[wrap_i64 h]
theorem bs_mul(h:InI64 (a*b)):binSem true .mul (.int .i64 a) (.int .i64 b)=some (.int .i64 (a*b)):=by
 show some (PV.int .i64 (IntKind.i64.wrap (a*b)))=_
 rw[wrap_i64 h]
theorem bs_addN(h:x+y<9223372036854775808):binSem true .add (.int .i64 (x:Int)) (.int .i64 (y:Int))=some (.int .i64 ((x+y:Nat):Int)):=by
 rw[bs_add (by unfold InI64;omega)];simp
theorem bs_quoN(h:y≠0)(h2:x<9223372036854775808):binSem true .quo (.int .i64 (x:Int)) (.int .i64 (y:Int))=some (.int .i64 ((x/y:Nat):Int)):=by
 have h1:decide ((y:Int)=0)=false:=by simp[h]
 show(bif decide ((y:Int)=0) then none else some (PV.int .i64 (IntKind.i64.wrap ((x:Int).tdiv (y:Int)))))=_
 have h3:(x:Int).tdiv (y:Int)=((x/y:Nat):Int):=by simp
 have h4:x/y≤x:=Nat.div_le_self _ _
 rw[h1,h3,wrap_i64 (by generalize x/y=q at *;unfold InI64;omega)];rfl
theorem bs_remN(h:y≠0):binSem true .rem (.int .i64 (x:Int)) (.int .i64 (y:Int))=some (.int .i64 ((x%y:Nat):Int)):=by
 have h1:decide ((y:Int)=0)=false:=by simp[h]
 show(bif decide ((y:Int)=0) then none else some (PV.int .i64 ((x:Int).tmod (y:Int))))=_
 have h3:(x:Int).tmod (y:Int)=((x%y:Nat):Int):=by rw[Int.tmod_eq_emod_of_nonneg (by omega)];simp
 rw[h1,h3];rfl
theorem bs_add_u64(h:(x+y)%18446744073709551616=r):binSem true .add (.int .u64 (x:Int)) (.int .u64 (y:Int))=some (.int .u64 (r:Int)):=by
 subst h;show some (PV.int .u64 (((x:Int)+(y:Int))%18446744073709551616))=_;simp
theorem bs_mul_u64(h:(x*y)%18446744073709551616=r):binSem true .mul (.int .u64 (x:Int)) (.int .u64 (y:Int))=some (.int .u64 (r:Int)):=by
 subst h;show some (PV.int .u64 (((x:Int)*(y:Int))%18446744073709551616))=_;simp
theorem bs_sub_u64(h:((x:Int)-(y:Int))%18446744073709551616=(r:Int)):binSem true .sub (.int .u64 (x:Int)) (.int .u64 (y:Int))=some (.int .u64 (r:Int)):=by
 rw[←h];rfl
theorem bs_quo_u64(hy:y≠0)(h:(x/y)%18446744073709551616=r):binSem true .quo (.int .u64 (x:Int)) (.int .u64 (y:Int))=some (.int .u64 (r:Int)):=by
 have h1:decide ((y:Int)=0)=false:=by simp[hy]
 show(bif decide ((y:Int)=0) then none else some (PV.int .u64 (((x:Int).tdiv (y:Int))%18446744073709551616)))=_
 have h3:(x:Int).tdiv (y:Int)=((x/y:Nat):Int):=by simp
 rw[h1,h3,←h];simp
theorem bs_rem_u64(hy:y≠0)(h:x%y=r):binSem true .rem (.int .u64 (x:Int)) (.int .u64 (y:Int))=some (.int .u64 (r:Int)):=by
 have h1:decide ((y:Int)=0)=false:=by simp[hy]
 show(bif decide ((y:Int)=0) then none else some (PV.int .u64 ((x:Int).tmod (y:Int))))=_
 have h3:(x:Int).tmod (y:Int)=((x%y:Nat):Int):=by rw[Int.tmod_eq_emod_of_nonneg (by omega)];simp
 rw[h1,h3,←h];simp
theorem bs_or_u64(h:(x%18446744073709551616) ||| (y%18446744073709551616)=r):binSem true .or (.int .u64 (x:Int)) (.int .u64 (y:Int))=some (.int .u64 (r:Int)):=by
 show some (PV.int .u64 (((BitVec.ofInt 64 (x:Int) ||| BitVec.ofInt 64 (y:Int)).toNat:Int)%18446744073709551616))=_
 have h2:(BitVec.ofInt 64 (x:Int) ||| BitVec.ofInt 64 (y:Int)).toNat=r:=by
  rw[←h];simp[BitVec.toNat_or]
 have h3:=(BitVec.ofInt 64 (x:Int) ||| BitVec.ofInt 64 (y:Int)).isLt
 rw[h2] at h3 ⊢
 congr 2;omega
theorem bs_shl_u64{k:IntKind}(h:(x*2^(min y 64))%18446744073709551616=r):binSem true .shl (.int .u64 (x:Int)) (.int k (y:Int))=some (.int .u64 (r:Int)):=by
 have h1:decide ((y:Int)<0)=false:=by simp
 show(bif decide ((y:Int)<0) then none else some (PV.int .u64 (((x:Int)*2^(min y 64))%18446744073709551616)))=_
 rw[h1,←h];simp
theorem bs_shr_u64{k:IntKind}(h:x/2^(min y 64)=r):binSem true .shr (.int .u64 (x:Int)) (.int k (y:Int))=some (.int .u64 (r:Int)):=by
 have h1:decide ((y:Int)<0)=false:=by simp
 show(bif decide ((y:Int)<0) then none else some (PV.int .u64 ((x:Int).fdiv (2^(min y 64)))))=_
 rw[h1,←h,Int.fdiv_eq_ediv_of_nonneg _ (by exact_mod_cast Nat.zero_le _)];simp
theorem bs_or_u32(h:(x%4294967296) ||| (y%4294967296)=r):binSem true .or (.int .u32 (x:Int)) (.int .u32 (y:Int))=some (.int .u32 (r:Int)):=by
 show some (PV.int .u32 (((BitVec.ofInt 32 (x:Int) ||| BitVec.ofInt 32 (y:Int)).toNat:Int)%4294967296))=_
 have h2:(BitVec.ofInt 32 (x:Int) ||| BitVec.ofInt 32 (y:Int)).toNat=r:=by
  rw[←h];simp[BitVec.toNat_or]
 have h3:=(BitVec.ofInt 32 (x:Int) ||| BitVec.ofInt 32 (y:Int)).isLt
 rw[h2] at h3 ⊢
 congr 2;omega
theorem bs_and_u32(h:(x%4294967296) &&& (y%4294967296)=r):binSem true .and (.int .u32 (x:Int)) (.int .u32 (y:Int))=some (.int .u32 (r:Int)):=by
 show some (PV.int .u32 (((BitVec.ofInt 32 (x:Int) &&& BitVec.ofInt 32 (y:Int)).toNat:Int)%4294967296))=_
 have h2:(BitVec.ofInt 32 (x:Int) &&& BitVec.ofInt 32 (y:Int)).toNat=r:=by
  rw[←h];simp[BitVec.toNat_and]
 have h3:=(BitVec.ofInt 32 (x:Int) &&& BitVec.ofInt 32 (y:Int)).isLt
 rw[h2] at h3 ⊢
 congr 2;omega
theorem bs_shl_u32{k:IntKind}(h:(x*2^(min y 32))%4294967296=r):binSem true .shl (.int .u32 (x:Int)) (.int k (y:Int))=some (.int .u32 (r:Int)):=by
 have h1:decide ((y:Int)<0)=false:=by simp
 show(bif decide ((y:Int)<0) then none else some (PV.int .u32 (((x:Int)*2^(min y 32))%4294967296)))=_
 rw[h1,←h];simp
theorem bs_shr_u32{k:IntKind}(h:x/2^(min y 32)=r):binSem true .shr (.int .u32 (x:Int)) (.int k (y:Int))=some (.int .u32 (r:Int)):=by
 have h1:decide ((y:Int)<0)=false:=by simp
 show(bif decide ((y:Int)<0) then none else some (PV.int .u32 ((x:Int).fdiv (2^(min y 32)))))=_
 rw[h1,←h,Int.fdiv_eq_ediv_of_nonneg _ (by exact_mod_cast Nat.zero_le _)];simp
theorem us_neg(h:InI64 (-a)):unSem .neg (.int .i64 a)=some (.int .i64 (-a)):=by
 show some (PV.int .i64 (IntKind.i64.wrap (0-a)))=_
 rw[Int.zero_sub,wrap_i64 h]
theorem us_neg_u64(h:(0-(x:Int))%18446744073709551616=(r:Int)):unSem .neg (.int .u64 (x:Int))=some (.int .u64 (r:Int)):=by
 rw[←h];rfl
theorem cv_u64(h:a%18446744073709551616=(r:Int)):IntKind.u64.wrap a=(r:Int):=h
theorem cv_u32N(h:x%4294967296=r):IntKind.u32.wrap (x:Int)=(r:Int):=by rw[←h];simp[wrap_u32]
theorem cv_u8N(h:x%256=r):IntKind.u8.wrap (x:Int)=(r:Int):=by
 have e:∀n:Int,IntKind.u8.wrap n=n%256:=fun n=>rfl
 rw[e,←h];simp
theorem cv_i64N(h:x<9223372036854775808):IntKind.i64.wrap (x:Int)=(x:Int):=wrap_i64 (by unfold InI64;omega)
theorem cv_w(v:UInt32):IntKind.u64.wrap (v.toNat:Int)=(v.toNat:Int):=by
 have:=v.toNat_lt;rw[wrap_u64];omega
theorem cv_wi(v:UInt32):IntKind.i64.wrap (v.toNat:Int)=(v.toNat:Int):=by
 have:=v.toNat_lt;exact wrap_i64 (by unfold InI64;omega)
theorem dlt_t(h:a<b):decide (a<b)=true:=decide_eq_true h
theorem dlt_f(h:b≤a):decide (a<b)=false:=decide_eq_false (Int.not_lt.2 h)
theorem dle_t(h:a≤b):decide (a≤b)=true:=decide_eq_true h
theorem dle_f(h:b<a):decide (a≤b)=false:=decide_eq_false (Int.not_le.2 h)
theorem deq_t(h:a=b):(a==b)=true:=by simp[h]
theorem deq_f(h:a≠b):(a==b)=false:=by simp[h]
theorem dne_t(h:a≠b):(a != b)=true:=by simp[h]
theorem dne_f(h:a=b):(a != b)=false:=by simp[h]
theorem dltN_t(h:x<y):decide ((x:Int)<(y:Int))=true:=decide_eq_true (Int.ofNat_lt.2 h)
theorem dltN_f(h:y≤x):decide ((x:Int)<(y:Int))=false:=dlt_f (Int.ofNat_le.2 h)
theorem dleN_t(h:x≤y):decide ((x:Int)≤(y:Int))=true:=decide_eq_true (Int.ofNat_le.2 h)
theorem dleN_f(h:y<x):decide ((x:Int)≤(y:Int))=false:=dle_f (Int.ofNat_lt.2 h)
theorem deqN_t(h:x=y):((x:Int)==(y:Int))=true:=by simp[h]
theorem deqN_f(h:x≠y):((x:Int)==(y:Int))=false:=deq_f (by omega)
theorem dneN_t(h:x≠y):((x:Int) != (y:Int))=true:=dne_t (by omega)
theorem dneN_f(h:x=y):((x:Int) != (y:Int))=false:=by simp[h]
theorem bnot_t{p:Bool}(h:p=false):(!p)=true:=by simp[h]
theorem bnot_f{p:Bool}(h:p=true):(!p)=false:=by simp[h]
theorem beq_t{p q:Bool}(h:p=q):(p==q)=true:=by simp[h]
theorem beq_f{p q:Bool}(h:p≠q):(p==q)=false:=by simp[h]
theorem maxN:(if (y:Int)>(x:Int) then (y:Int) else (x:Int))=((max x y:Nat):Int):=by split<;>omega
theorem maxI:(if b>a then b else a)=max a b:=by split<;>omega
end
section
variable {α:Type} {enc:α→List PV} {xs ys:List α} {k l u n m sz off:Nat} {v d:α}
def Sz(enc:α→List PV)(sz:Nat):Prop:=∀a,(enc a).length=sz
theorem sz_word:Sz wordPV 1:=fun _=>rfl
theorem sz_int:Sz intCell 1:=fun _=>rfl
theorem sz_str:Sz strCell 1:=fun _=>rfl
theorem sz_l(enc:α→List PV):Sz (lcell enc) 1:=fun _=>rfl
theorem ob_at(h:xs[k]? = some v):(xs.map enc)[k]? = some (enc v):=by simp[h]
theorem enc_len(hs:Sz enc sz):∀xs:List α,((xs.map enc).flatten).length=xs.length*sz
 |[]=>by simp
 |x::xs=>by simp[enc_len hs xs,hs x,Nat.add_mul,Nat.add_comm]
theorem flat_drop(hs:Sz enc sz):∀(xs:List α) (k:Nat),((xs.map enc).flatten).drop (k*sz)=((xs.drop k).map enc).flatten
 |[],k=>by simp
 |x::xs,0=>by simp
 |x::xs,k+1=>by
  rw[List.drop_succ_cons,←flat_drop hs xs k,List.map_cons,List.flatten_cons,Nat.succ_mul,Nat.add_comm,←List.drop_drop,List.drop_left' (hs x)]
theorem flat_take(hs:Sz enc sz):∀(xs:List α) (k:Nat),((xs.map enc).flatten).take (k*sz)=((xs.take k).map enc).flatten
 |[],k=>by simp
 |x::xs,0=>by simp
 |x::xs,k+1=>by
  have h:(k+1)*sz=(enc x).length+k*sz:=by rw[hs x,Nat.succ_mul,Nat.add_comm]
  rw[List.take_succ_cons,List.map_cons,List.map_cons,List.flatten_cons,List.flatten_cons,←flat_take hs xs k,h,List.take_length_add_append]
theorem ob_get{f:α→PV}(he:∀a,enc a=[f a])(h:xs[k]? = some v):(((xs.map enc).flatten).map EV.pv)[0+k*1]? = some (.pv (f v)):=by
 have hs:Sz enc 1:=fun a=>by rw[he];rfl
 have h1:=flat_drop hs xs k
 have hk:k<xs.length:=(List.getElem?_eq_some_iff.1 h).1
 have hv:xs[k]=v:=by
  have:=List.getElem?_eq_getElem hk
  rw[h] at this;injection this with this;exact this.symm
 have h2:((xs.map enc).flatten)[k*1]? = some (f v):=by
  have:(((xs.map enc).flatten).drop (k*1))[0]? = some (f v):=by
   rw[h1,List.drop_eq_getElem_cons hk,hv];simp[he]
  rw[List.getElem?_drop] at this
  simpa using this
 rw[Nat.zero_add,List.getElem?_map,h2];rfl
theorem ob_seg(hs:Sz enc sz)(h:xs[k]? = some v):((((xs.map enc).flatten).map EV.pv).drop (0+k*sz)).take sz=(enc v).map EV.pv:=by
 have hk:k<xs.length:=(List.getElem?_eq_some_iff.1 h).1
 have hv:xs[k]=v:=by
  have:=List.getElem?_eq_getElem hk
  rw[h] at this;injection this with this;exact this.symm
 rw[Nat.zero_add,←List.map_drop,←List.map_take,flat_drop hs,List.drop_eq_getElem_cons hk,hv,List.map_cons,List.flatten_cons,List.take_left' (hs v)]
theorem splice_at(hs:Sz enc sz)(h:k<xs.length):splice ((xs.map enc).flatten) (k*sz) (enc v)=((xs.set k v).map enc).flatten:=by
 unfold splice
 have h1:(enc v).length=sz:=hs v
 rw[h1,flat_take hs,show k*sz+sz=(k+1)*sz from(Nat.succ_mul k sz).symm,flat_drop hs,List.set_eq_take_append_cons_drop,if_pos h]
 simp
theorem ob_set(hs:Sz enc sz)(h:k<xs.length):splice (((xs.map enc).flatten).map EV.pv) (0+k*sz) ((enc v).map EV.pv)=(((xs.set k v).map enc).flatten).map EV.pv:=by
 rw[←splice_at hs h,Nat.zero_add]
 simp[splice,List.map_drop,List.map_take]
theorem ob_set_len(hs:Sz enc sz)(h:k<xs.length):(0+k*sz)+((enc v).map EV.pv).length≤(((xs.map enc).flatten).map EV.pv).length:=by
 rw[Nat.zero_add,List.length_map,List.length_map,hs v,enc_len hs]
 calc k*sz+sz=(k+1)*sz:=(Nat.succ_mul k sz).symm
  _≤xs.length*sz:=Nat.mul_le_mul_right _ h
theorem ob_rows(hs:Sz enc sz):∀row∈xs.map enc,row.length=sz:=by
 intro row h
 obtain⟨a,_,rfl⟩:=List.mem_map.1 h
 exact hs a
theorem ob_app:(xs.map enc).flatten++(ys.map enc).flatten=((xs++ys).map enc).flatten:=by simp
theorem ob_app_len:xs.length+(ys.map enc).length=(xs++ys).length:=by simp
theorem ob_app_lenR:xs.length+ys.length=(xs++ys).length:=by simp
theorem ob_slc0:((xs.map enc).take u).drop 0=(xs.take u).map enc:=by simp[List.map_take]
theorem ob_le(h:k≤xs.length):k≤(xs.map enc).length:=by simpa using h
theorem ob_tk{b:Int}(h:b=(k:Int))(hk:k≤xs.length):b=(((xs.take k).length:Nat):Int):=by rw[h,List.length_take];omega
theorem ob_tkle:(xs.take k).length≤xs.length:=by rw[List.length_take];omega
theorem ob_bytes{b:Nat}(h:n*b≤140737488355328)(hb:Nat.ble 1 b=true):n<9223372036854775808:=by
 have h1:1≤b:=Nat.le_of_ble_eq_true hb
 have h2:n*1≤n*b:=Nat.mul_le_mul_left n h1
 omega
theorem ob_bytes2{b:Nat}(h:b*n≤140737488355328)(hb:Nat.ble 1 b=true):n<9223372036854775808:=ob_bytes (by rw[Nat.mul_comm];exact h) hb
theorem ob_rep{z:List PV}(h:z=enc d):(List.replicate m z).flatten=((List.replicate m d).map enc).flatten:=by simp[h]
theorem ob_lenN(h:n=xs.length):n=(xs.map enc).length:=by simpa using h
theorem o_len(enc:α→List PV)(xs:List α):((xs.map enc).length:Int)=(xs.length:Int):=by simp
theorem o_at(enc:α→List PV){i:Int}(hi:i=(k:Int))(h:xs[k]? = some v):i=(k:Int)∧(xs.map enc)[k]? = some (enc v)∧(enc v).length=(enc v).length:=⟨hi,ob_at h,rfl⟩
theorem o_bs(hs:Sz enc sz)(X:List α):(X.map enc).flatten=(X.map enc).flatten∧(X.map enc).length=(X.map enc).length∧∀row∈X.map enc,row.length=sz:=⟨rfl,rfl,ob_rows hs⟩
theorem o_seg(hs:Sz enc sz)(h:xs[k]? = some v):((((xs.map enc).flatten).map EV.pv).drop (0+k*sz)).take sz=(enc v).map EV.pv∧(enc v).length=(enc v).length:=⟨ob_seg hs h,rfl⟩
theorem o_get{f:α→PV}(he:∀a,enc a=[f a])(h:xs[k]? = some v):(((xs.map enc).flatten).map EV.pv)[0+k*1]? = some (.pv (f v)):=ob_get he h
theorem o_mk(enc:α→List PV)(d:α){n:Int}(b m:Nat)(hm:n=(m:Int))(h:b*m≤140737488355328)(hb:Nat.ble 1 b=true) :
  n=(m:Int)∧n=(m:Int)∧b*m≤140737488355328∧m<9223372036854775808∧(List.replicate m (enc d)).flatten=((List.replicate m d).map enc).flatten:=⟨hm,hm,h,ob_bytes2 h hb,ob_rep rfl⟩
theorem o_sl0(hs:Sz enc sz)(xs:List α){b:Int}(h2:b=(u:Int))(h4:u≤xs.length) :
  ((0:Nat):Int)=((0:Nat):Int)∧b=(u:Int)∧0≤u∧u≤(xs.map enc).length∧((xs.map enc).take u).drop 0=(xs.take u).map enc∧∀row∈(xs.take u).map enc,row.length=sz :=
 ⟨rfl,h2,Nat.zero_le _,ob_le h4,ob_slc0,ob_rows hs⟩
theorem o_set(hs:Sz enc sz)(xs:List α)(v:α)(h:k<xs.length):(0+k*sz)+((enc v).map EV.pv).length≤(((xs.map enc).flatten).map EV.pv).length∧splice (((xs.map enc).flatten).map EV.pv) (0+k*sz) ((enc v).map EV.pv)=(((xs.set k v).map enc).flatten).map EV.pv :=
 ⟨ob_set_len hs h,ob_set hs h⟩
theorem o_appL(hs:Sz enc sz)(xs ys:List α)(b:Nat)(hx:xs.length=n)(h:(xs++ys).length*b≤140737488355328)(hb:Nat.ble 1 b=true) :
  ((xs.map enc).flatten).length=n*sz∧(∀row∈ys.map enc,row.length=sz)∧n+(ys.map enc).length=(xs++ys).length∧(xs.map enc).flatten++(ys.map enc).flatten=((xs++ys).map enc).flatten ∧
   (xs++ys).length*b≤140737488355328∧(xs++ys).length<9223372036854775808 :=
 ⟨by rw[enc_len hs,hx],ob_rows hs,by rw[←hx];exact ob_app_len,ob_app,h,ob_bytes h hb⟩
theorem o_appR(hs:Sz enc sz)(xs ys:List α)(b:Nat)(hx:xs.length=n)(hy:ys.length=m)(h:(xs++ys).length*b≤140737488355328)(hb:Nat.ble 1 b=true) :
  ((xs.map enc).flatten).length=n*sz∧((ys.map enc).flatten).length=m*sz∧n+m=(xs++ys).length∧(xs.map enc).flatten++(ys.map enc).flatten=((xs++ys).map enc).flatten ∧
   (xs++ys).length*b≤140737488355328∧(xs++ys).length<9223372036854775808 :=
 ⟨by rw[enc_len hs,hx],by rw[enc_len hs,hy],by rw[←hx,←hy];exact ob_app_lenR,ob_app,h,ob_bytes h hb⟩
theorem o_frz(hs:Sz enc sz)(xs:List α)(h:n=xs.length):n=(xs.map enc).length∧(xs.map enc).flatten=(xs.map enc).flatten∧∀row∈xs.map enc,row.length=sz:=⟨ob_lenN h,rfl,ob_rows hs⟩
theorem o_cut(hs:Sz enc sz)(xs:List α)(k:Nat):((xs.map enc).flatten).take (k*sz)=((xs.take k).map enc).flatten:=flat_take hs xs k
theorem o_cpL(hs:Sz enc sz)(xs ys:List α)(h:min ys.length n=k)(hk:k≤xs.length):(∀row∈ys.map enc,row.length=sz)∧min (ys.map enc).length n=k∧0+k*sz≤((xs.map enc).flatten).length ∧
  splice ((xs.map enc).flatten) 0 (((ys.map enc).flatten).take (k*sz))=((ys.take k++xs.drop k).map enc).flatten:=by
 refine⟨ob_rows hs,by simpa using h,by rw[enc_len hs,Nat.zero_add];exact Nat.mul_le_mul_right _ hk,?_⟩
 have hy:k≤ys.length:=by omega
 rw[flat_take hs]
 unfold splice
 rw[List.take_zero,List.nil_append,Nat.zero_add,enc_len hs,List.length_take,Nat.min_eq_left hy,flat_drop hs]
 simp
theorem o_maxN(x y:Nat):(if (y:Int)>(x:Int) then (y:Int) else (x:Int))=((max x y:Nat):Int):=maxN
theorem o_maxI(a b:Int):(if b>a then b else a)=max a b:=maxI
theorem o_get1{f:α→PV}(he:∀a,enc a=[f a])(h:xs[off+k]? = some v):(((xs.map enc).flatten).map EV.pv)[off+k*1]? = some (.pv (f v)):=by
 have:=ob_get (xs:=xs) (k:=off+k) he h
 rw[Nat.mul_one]
 rw[Nat.zero_add,Nat.mul_one] at this
 exact this
theorem o_set1(hs:Sz enc 1)(xs:List α)(v:α)(off k:Nat)(h:off+k<xs.length):(off+k*1)+((enc v).map EV.pv).length≤(((xs.map enc).flatten).map EV.pv).length∧splice (((xs.map enc).flatten).map EV.pv) (off+k*1) ((enc v).map EV.pv)=(((xs.set (off+k) v).map enc).flatten).map EV.pv:=by
 have h1:=ob_set_len (k:=off+k) (v:=v) hs h
 have h2:=ob_set (k:=off+k) (v:=v) hs h
 rw[Nat.zero_add,Nat.mul_one] at h1 h2
 rw[Nat.mul_one]
 exact⟨h1,h2⟩
theorem o_sr0(xs:List α){b:Int}(h:b=(k:Int))(hk:k≤xs.length):((0:Nat):Int)=((0:Nat):Int)∧b=(((xs.take k).length:Nat):Int)∧(0=0∨0<(xs.take k).length)∧0≤(xs.take k).length∧(xs.take k).length≤xs.length :=
 ⟨rfl,ob_tk h hk,.inl rfl,Nat.zero_le _,ob_tkle⟩
theorem o_sr{a b:Int}(h1:a=(l:Int))(h2:b=(u:Int))(h3:l=0∨l<u)(h4:l≤u)(h5:u≤n):a=(l:Int)∧b=(u:Int)∧(l=0∨l<u)∧l≤u∧u≤n:=⟨h1,h2,h3,h4,h5⟩
theorem o_ti{x:Int}{op:BinOp}{q r:PV}(h:x=(k:Int))(hb:binSem true op (.int .i64 (k:Int)) q=some r):binSem true op (.int .i64 x) q=some r:=by rw[h];exact hb
theorem o_tk{x:Int}{op:BinOp}{p r:PV}{kk:IntKind}(h:x=(k:Int))(hb:binSem true op p (.int kk (k:Int))=some r):binSem true op p (.int kk x)=some r:=by rw[h];exact hb
abbrev hrows{α:Type}(enc:α→List PV)(X:List (List α)):List (Option (List PV)):=X.map fun r=>some (r.map enc).flatten
theorem o_mload{H:List (Nat×Nat)}{k j l:Nat}(sz:Nat)(h:H[k]? = some (j,l)):(H.map fun x=>EV.mrow x.1 x.2 sz)[0+k*1]? = some (.mrow j l sz):=by
 rw[Nat.zero_add,Nat.mul_one,List.getElem?_map,h];rfl
theorem o_mput{H:List (Nat×Nat)}{k:Nat}(j l sz:Nat)(h:k<H.length):(0+k*1)+[EV.mrow j l sz].length≤(H.map fun x=>EV.mrow x.1 x.2 sz).length∧splice (H.map fun x=>EV.mrow x.1 x.2 sz) (0+k*1) [EV.mrow j l sz]=(H.set k (j,l)).map fun x=>EV.mrow x.1 x.2 sz:=by
 rw[Nat.zero_add,Nat.mul_one]
 refine⟨by simp;omega,?_⟩
 apply List.ext_getElem?
 intro i
 rw[splice_get _ _ _ (by simp;omega),List.getElem?_map,List.getElem?_map,List.getElem?_set]
 by_cases hi:k=i
 ·subst hi;simp[h]
 ·rw[if_neg (by simp;omega),if_neg hi]
theorem o_mseg{α:Type}{enc:α→List PV}{sz:Nat}(hs:Sz enc sz){X:List (List α)}{r:List α}{v:α}{j k:Nat}(h1:X[j]? = some r)(h2:r[k]? = some v):(hrows enc X)[j]? = some (some (r.map enc).flatten)∧(((r.map enc).flatten).drop (k*sz)).take sz=enc v∧(enc v).length=sz:=by
 refine⟨by simp[hrows,h1],?_,hs v⟩
 have:=(o_seg hs h2).1
 rw[Nat.zero_add,←List.map_drop,←List.map_take] at this
 have h3:=congrArg (List.map fun e=>match e with|EV.pv p=>p|_ => .nilI) this
 simp only[List.map_map] at h3
 have hid:((fun e=>match e with|EV.pv p=>p|_=>PV.nilI) ∘ EV.pv)=id:=by funext p;rfl
 rw[hid,List.map_id,List.map_id] at h3
 exact h3
theorem o_mstore{α:Type}{enc:α→List PV}{sz:Nat}(hs:Sz enc sz){X:List (List α)}{r:List α}{j k:Nat}(v:α)(h1:X[j]? = some r)(h2:k<r.length):(hrows enc X)[j]? = some (some (r.map enc).flatten)∧k*sz+(enc v).length≤((r.map enc).flatten).length ∧
  splice ((r.map enc).flatten) (k*sz) (enc v)=((r.set k v).map enc).flatten∧(hrows enc X).set j (some ((r.set k v).map enc).flatten)=hrows enc (X.set j (r.set k v)):=by
 obtain⟨g1,g2⟩:=o_set hs r v h2
 rw[Nat.zero_add] at g1 g2
 rw[List.length_map,List.length_map] at g1
 refine⟨by simp[hrows,h1],g1,?_,by simp[hrows,List.map_set]⟩
 rw[←splice_map] at g2
 have h3:=congrArg (List.map fun e=>match e with|EV.pv p=>p|_=>PV.nilI) g2
 simp only[List.map_map] at h3
 have hid:((fun e=>match e with|EV.pv p=>p|_=>PV.nilI) ∘ EV.pv)=id:=by funext p;rfl
 rw[hid,List.map_id,List.map_id] at h3
 exact h3
theorem o_mapp(H:List (Nat×Nat))(j l b:Nat)(h:(H++[(j,l)]).length*b≤140737488355328)(hb:Nat.ble 1 b=true):H.length=H.length∧H.length+1=(H++[(j,l)]).length∧H++[(j,l)]=H++[(j,l)]∧(H++[(j,l)]).length*b≤140737488355328∧(H++[(j,l)]).length<9223372036854775808:=by
 have hb:1≤b:=Nat.le_of_ble_eq_true hb
 have:(H++[(j,l)]).length≤(H++[(j,l)]).length*b:=Nat.le_mul_of_pos_right _ hb
 exact⟨rfl,by simp,rfl,h,by omega⟩
theorem o_rel{α:Type}(enc:α→List PV)(X:List (List α))(r:List α):(hrows enc X).length=X.length∧hrows enc X++[some (r.map enc).flatten]=hrows enc (X++[r]):=by simp[hrows]
end
end Go.Proofs.YtboilcfohmmpbaaGreatDoor.Sym
