/- The comparison of algebraic numbers is a total order that agrees with the comparison with fractions. The law AlgebraicOrder returns true for every input, with the tables of numerals of the Go library that the row lists as they are laid. -/
import Derived.Test.YtllmkadmohkbfaaGreatDoorYSymC
namespace Go.Proofs.YtllmkadmohkbfaaGreatDoor.Sym
open Go Go.RowKit
inductive SC where
 |lit (cs:List EV)
 |pure (ps:List PV)
 |heap (xs:List (Option (List PV)))
 |FL (hs:List (Nat×Nat)) (sz:Nat)
def SC.qR:SC→List EV
 |.lit cs=>cs
 |.pure ps=>ps.map EV.pv
 |.heap _=>[]
 |.FL hs sz=>hs.map fun x => .pg x.1 x.2 sz
abbrev aS:=List (Nat×SC)
inductive Hint where
 |none
 |pv (p:PV)
 |ev (e:EV)
 |nat (n:Nat)
 |dec (b:Bool)
 |row (k:Nat) (cells:List PV)
 |GW (ps:List PV)
 |iL (l h:Nat) (xs:List (List PV))
 |cells (cs:SC)
 |bG (σ:List (Nat×Nat)) (nw:Option (Nat×Nat)) (r:EV) (sout:aS)
 |app (len:Nat) (out:List PV)
 |nil
 |skip
 |W2 (ps out:List PV)
 |W3 (ps out:List PV) (xs:List (Option (List PV)))
 |Th
 |W4 (n:Nat) (hs:List (Nat×Nat))
 |VM (g:Nat) (r:PV)
 |VN (r:EV) (hs:List (Nat×Nat)) (sz:Nat) (xs:List (Option (List PV)))
structure mN where
 val:EV
 new:Option SC
 ob:List Prop
def G0:PV→PV
 |.dF => .list []
 |p=>p
def jy(h:Hint)(d:TD):List PV:=match h with
 |.nil=>d.zero
 |_=>d.zero.map G0
def dA:List Prop→Prop
 |[]=>True
 |[p]=>p
 |p::r=>p∧dA r
theorem dA.cons{p:Prop}{r:List Prop}(h:dA (p::r)):p∧dA r:=by
 cases r with
 |nil=>exact⟨h,True.intro⟩
 |cons q r=>exact h
theorem dA.app:∀{l m:List Prop},dA (l++m)→dA l∧dA m
 |[],m,h=>⟨True.intro,h⟩
 |[p],m,h=>⟨h.cons.1,h.cons.2⟩
 |p::q::r,m,h=>by
  obtain⟨h1,h2⟩:=dA.cons (r:=q::r++m) h
  obtain⟨h3,h4⟩:=dA.app (l:=q::r) h2
  exact⟨⟨h1,h3⟩,h4⟩
def aS.dR:aS→Nat→Option SC
 |[],_=>none
 |(r',c)::s,r=>bif Nat.beq r' r then some c else aS.dR s r
def aS.hp(s:aS):List (Option (List PV)):=match s.dR 999999 with
 |some (.heap xs)=>xs
 |_=>[]
def pV(xs:List (Option (List PV)))(j:Nat):Option SC:=match xs[j]? with
 |some (some ps)=>some (.pure ps)
 |_=>none
def aS.get(s:aS)(r:Nat):Option SC:=bif Nat.blt r 999999 then s.dR r else bif Nat.blt r 1000000 then none else pV s.hp (r-1000000)
theorem aS.ke{s:aS}{r:Nat}(h:r<999999):s.get r=s.dR r:=by
 unfold aS.get
 rw[show Nat.blt r 999999=true from Nat.ble_eq_true_of_le h];rfl
theorem aS.gr{s:aS} : s.get 999999=none:=rfl
theorem aS.kK{s:aS}{j:Nat} : s.get (hc j)=pV s.hp j:=by
 unfold aS.get hc
 rw[show Nat.blt (1000000+j) 999999=false from Bool.eq_false_iff.2 (fun h=>by have:=Nat.le_of_ble_eq_true h;omega),
  show Nat.blt (1000000+j) 1000000=false from Bool.eq_false_iff.2 (fun h=>by have:=Nat.le_of_ble_eq_true h;omega)]
 show pV s.hp (1000000+j-1000000)=_
 rw[Nat.add_sub_cancel_left]
theorem DT(x:Nat):x<999999∨x=999999∨∃j,x=hc j:=by
 unfold hc
 by_cases h:x<999999
 ·exact .inl h
 ·by_cases h2:x=999999
  ·exact .inr (.inl h2)
  ·exact .inr (.inr ⟨x-1000000,by omega⟩)
def fS(e:EV):Option mN:=some ⟨e,none,[]⟩
def pk:List EV→Option (List PV)
 |[]=>some []
 |.pv p::r=>match pk r with
  |some ps=>some (p::ps)
  |none=>none
 |_::_=>none
def pW:EV→Option (List EV)
 |.pv p=>bif p.td then none else some (p.cells.map EV.pv)
 |.dead=>none
 |.n7 .. => none
 |.AT .. => none
 |e=>some [e]
def Mh(T:j0)(t:TypeId):PV→Bool
 |.bool _=>match T.get t with
  |some d=>match d.kind with
   |.bool=>true
   |_=>false
  |none=>false
 |.az=>match T.get t with
  |some d=>match d.kind with
   |.iface=>true
   |_=>false
  |none=>false
 |.iface _ _=>match T.get t with
  |some d=>match d.kind with
   |.iface=>true
   |_=>false
  |none=>false
 |_=>true
def n9(ρ:Operand→Option EV):List (Nat×Operand)→Option (List (Nat×PV))
 |[]=>some []
 |(i,x)::r=>match ρ x,n9 ρ r with
  |some (.pv p),some ps=>some ((i,p)::ps)
  |_,_=>none
def FM(h:Hint)(f:Option (List PV)):Option (List PV×List Prop):=match h with
 |.app _ out=>some (out,[f=some out])
 |_=>match f with
  |some cs=>some (cs,[])
  |none=>none
theorem DU{h:Hint}{f:Option (List PV)}{cs:List PV}{ob:List Prop}(e:FM h f=some (cs,ob)):(dA ob→f=some cs)∧∀l u xs,h = .iL l u xs→ob=[]:=by
 unfold FM at e
 split at e
 ·injection e with e;injection e with e1 e2
  subst e1;subst e2
  exact⟨fun h=>h,fun l u xs h=>by cases h⟩
 ·split at e
  ·injection e with e;injection e with e1 e2
   subst e1;subst e2
   exact⟨fun _=>rfl,fun _ _ _ _=>rfl⟩
  ·cases e
def Ct(d:TD)(cells:List EV)(off:Nat)(h:Hint):Option mN :=
 bif d.agg then
  match h with
  |.GW ps=>some ⟨.pv (.agg ps),none,[(cells.drop off).take d.size=ps.map EV.pv,ps.length=d.size]⟩
  |_=>match pk ((cells.drop off).take d.size) with
   |some ps=>bif Nat.beq ps.length d.size then fS (.pv (.agg ps)) else none
   |none=>none
 else match h with
  |.ev e=>some ⟨e,none,[cells[off]? = some e]⟩
  |_=>match cells[off]? with
   |some e=>fS e
   |none=>none
def uF(size:Nat)(e:EV)(l h:Nat)(xs:List (List PV))(ob:List Prop):Option mN :=
 match e with
 |.pv (.list ys)=>some ⟨.pv (.list xs),none,ob++[l≤h,h≤ys.length,(ys.take h).drop l=xs,∀row∈xs,row.length=size]⟩
 |.row r off len sz=>match xs with
  |[]=>some ⟨.row r (off+l*sz) (h-l) sz,none,ob++[l=0∨l<h,l≤h,h≤len]⟩
  |_::_=>some ⟨.pv (.list []),none,ob++[l=h,h≤len]⟩
 |_=>none
def Mi(ρ:Operand→Option EV)(o:Option Operand)(d:EV):Option EV:=match o with
 |some y=>ρ y
 |none=>some d
def l5:EV→Option Nat
 |.pv (.list xs)=>some xs.length
 |.row _ _ len _=>some len
 |.pg _ len _=>some len
 |_=>none
def b8(T:j0)(aG:aS)(dst:Option Nat)(op:Op)(ρ:Operand→Option EV)(h:Hint):Option mN :=
 match op with
 |.move x=>match ρ x with
  |some e=>fS e
  |none=>none
 |.assign x=>match h,x with
  |.nil,.const (.slice none 0 0)=>fS (.pv .dF)
  |_,_=>match ρ x with
   |some e=>fS e
   |none=>none
 |.pick c a b=>match ρ c,h with
  |some (.pv (.bool t)),.dec d=>match ρ (bif d then a else b) with
   |some e=>some ⟨e,none,[t=d]⟩
   |none=>none
  |some (.pv (.bool t)),.none=>match ρ (bif t then a else b) with
   |some e=>some ⟨e,none,[]⟩
   |none=>none
  |_,_=>none
 |.alloc t=>match T.get t,dst with
  |some d,some r=>some ⟨.ptr r 0,some (.lit ((jy h d).map EV.pv)),[]⟩
  |_,_=>none
 |.box _ x=>match ρ x,dst with
  |some e,some r=>match pW e with
   |some cs=>some ⟨.ptr r 0,some (.lit cs),[]⟩
   |none=>none
  |_,_=>none
 |.build t parts=>match T.get t,n9 ρ parts.toList with
  |some d,some ps=>match d.kind with
   |.struct fs=>match lM (kv fs) (jy h d) ps with
    |some cs=>fS (.pv (.agg cs))
    |none=>none
   |_=>none
  |_,_=>none
 |.buildSlice t n parts=>match T.get t,n9 ρ parts.toList,dst with
  |some d,some ps,some r=>match d.kind with
   |.slice e=>match T.get e with
    |some de=>bif Nat.ble (n*de.size) 4096&&Nat.ble 1 de.size then
      match FM h (lM (fun i=>some (i*de.size,de.size)) ((List.replicate n (jy h de)).flatten) ps) with
      |some (cs,ob)=>match h with
       |.iL _ _ xs=>some ⟨.pv (.list xs),none,[cs=xs.flatten,n=xs.length,∀row∈xs,row.length=de.size]⟩
       |_=>some ⟨.row r 0 n de.size,some (.pure cs),ob⟩
      |none=>none
     else none
    |none=>none
   |_=>none
  |_,_,_=>none
 |.load t x=>match T.get t,ρ x with
  |some d,some (.ptr r off)=>match aG.get r with
   |some sc=>Ct d sc.qR off h
   |none=>none
  |some d,some (.n6 cells)=>bif d.agg then (bif Nat.ble d.size cells.length then fS (.pv (.agg (cells.take d.size))) else none) else match cells with
   |p::_=>fS (.pv p)
   |[]=>none
  |_,_=>none
 |.nilCheck x=>match ρ x with
  |some (.ptr r off)=>fS (.ptr r off)
  |some (.n6 c)=>fS (.n6 c)
  |some (.nj j off)=>fS (.nj j off)
  |_=>none
 |.binOp op t x y _=>match ρ x,ρ y with
  |some (.pv p),some (.pv q)=>bif Mh T t p then (match h with
    |.pv r=>some ⟨.pv r,none,[dQ (Jv x||Jv y) op p q=some r]⟩
    |_=>match dQ (Jv x||Jv y) op p q with
     |some r=>fS (.pv r)
     |none=>none) else none
  |_,_=>none
 |.unOp op _ x=>match ρ x with
  |some (.pv p)=>match h with
   |.pv r=>some ⟨.pv r,none,[Bs op p=some r]⟩
   |_=>match Bs op p with
    |some r=>fS (.pv r)
    |none=>none
  |_=>none
 |.convert s t x=>match T.get s,T.get t,ρ x with
  |some _,some d,some (.pv (.int _ n))=>match d.kind with
   |.int k=>match h with
    |.pv (.int k' m)=>bif decide (k=k') then some ⟨.pv (.int k m),none,[k.wrap n=m]⟩ else none
    |_=>fS (.pv (.int k (k.wrap n)))
   |_=>none
  |_,_,_=>none
 |.makeInterface t x=>match T.get t,ρ x with
  |some d,some (.pv p)=>match d.kind with
   |.iface=>none
   |.other=>none
   |_=>fS (.pv (.iface t p))
  |_,_=>none
 |.makeSlice t l c=>match T.get t,ρ l,ρ c,dst,h with
  |some d,some (.pv (.int .i64 n)),some (.pv (.int .i64 n')),some r,.app m out=>match d.kind with
   |.slice e=>match T.get e with
    |some de=>bif Nat.ble 1 de.size then some ⟨.row r 0 m de.size,some (.pure out),[n=(m:Int),n'=(m:Int),de.bytes*m≤140737488355328,m<9223372036854775808,(List.replicate m (jy .none de)).flatten=out]⟩ else none
    |none=>none
   |_=>none
  |_,_,_,_,_=>none
 |.slice t x lo hi mx=>match T.get t,ρ x,mx,h with
  |some d,some e,none,.iL l u xs=>match d.kind with
   |.slice el=>match T.get el,e with
    |some de,.row r off len sz=>bif Nat.beq de.size sz then
      (match Mi ρ lo (.pv (.int .i64 0)),Mi ρ hi (.pv (.int .i64 len)) with
      |some (.pv (.int _ a)),some (.pv (.int _ b))=>uF sz (.row r off len sz) l u xs [a=(l:Int),b=(u:Int)]
      |_,_=>none) else none
    |some de,.pv (.list ys) =>
      (match Mi ρ lo (.pv (.int .i64 0)),Mi ρ hi (.pv (.int .i64 ys.length)) with
      |some (.pv (.int _ a)),some (.pv (.int _ b))=>uF de.size (.pv (.list ys)) l u xs [a=(l:Int),b=(u:Int)]
      |_,_=>none)
    |_,_=>none
   |_=>none
  |_,_,_,_=>none
 |.fieldAddr t x f=>match T.get t,ρ x with
  |some d,some e=>match d.kind with
   |.struct fs=>match fs[f]? with
    |some (off,size,_)=>bif Nat.ble 1 size then (match e with
      |.ptr r o=>fS (.ptr r (o+off))
      |.n6 cs=>fS (.n6 (cs.drop off))
      |.nj j o=>fS (.nj j (o+off))
      |_=>none) else none
    |none=>none
   |_=>none
  |_,_=>none
 |.field t x f=>match T.get t,ρ x with
  |some d,some (.pv (.agg cs))=>match d.kind with
   |.struct fs=>match fs[f]? with
    |some (off,size,agg)=>match yF cs off size agg with
     |some p=>fS (.pv p)
     |none=>none
    |none=>none
   |_=>none
  |_,_=>none
 |.indexAddr t x i=>match T.get t,ρ x,ρ i with
  |some d,some e,some (.pv (.int _ n))=>match d.kind with
   |.slice el=>match T.get el with
    |some de=>match e,h with
     |.row r off len sz,.nat k=>bif Nat.beq sz de.size then some ⟨.ptr r (off+k*sz),none,[n=(k:Int),k<len]⟩ else none
     |.pg j len sz,.nat k=>bif Nat.beq sz de.size then some ⟨.nj j (k*sz),none,[n=(k:Int),k<len]⟩ else none
     |.pv (.list xs),.row k row=>some ⟨.n6 row,none,[n=(k:Int),xs[k]? = some row,row.length=de.size]⟩
     |_,_=>none
    |none=>none
   |.array len el=>match T.get el with
    |some de=>match e,h with
     |.ptr r off,.nat k=>some ⟨.ptr r (off+k*de.size),none,[n=(k:Int),k<len]⟩
     |_,_=>none
    |none=>none
   |_=>none
  |_,_,_=>none
 |.index t x i=>match T.get t,ρ x,ρ i,h with
  |some d,some (.pv (.agg cs)),some (.pv (.int _ n)),.row k row=>match d.kind with
   |.array len el=>match T.get el with
    |some de=>bif de.agg then some ⟨.pv (.agg row),none,[n=(k:Int),k<len,k*de.size+de.size≤cs.length,(cs.drop (k*de.size)).take de.size=row]⟩ else none
    |none=>none
   |_=>none
  |some d,some (.pv (.str s)),some (.pv (.int _ n)),.row k [.int .u8 m]=>match d.kind with
   |.str=>some ⟨.pv (.int .u8 m),none,[n=(k:Int),(s.data.toList[k]?).map (fun b=>(b.toNat:Int))=some m]⟩
   |_=>none
  |_,_,_,_=>none
 |.extract x i=>match ρ x with
  |some (.pv (.aE vs))=>match vs[i]? with
   |some p=>fS (.pv p)
   |none=>none
  |some (.n7 r off len sz ps)=>match i with
   |0=>fS (.row r off len sz)
   |j+1=>match ps[j]? with
    |some p=>fS (.pv p)
    |none=>none
  |_=>none
 |.typeAssert x _ t true=>match T.get t,ρ x with
  |some d,some (.pv (.iface u p))=>match d.kind with
   |.int _=>bif Nat.beq u t then fS (.pv (.aE [p,.bool true])) else none
   |_=>none
  |_,_=>none
 |.call c=>match c.callee,c.args.toList,c.argTypes.toList with
  |.builtin .len,[x],[t]=>match T.get t,ρ x with
   |some d,some e=>match d.kind,l5 e with
    |.slice _,some n=>(match h with
     |.pv (.int .i64 m)=>some ⟨.pv (.int .i64 m),none,[(n:Int)=m]⟩
     |_=>fS (.pv (.int .i64 n)))
    |.str,_=>(match e,h with
     |.pv (.str s),.pv (.int .i64 m)=>some ⟨.pv (.int .i64 m),none,[(s.size:Int)=m]⟩
     |_,_=>none)
    |_,_=>none
   |_,_=>none
  |.builtin .max,[x,y],_=>match ρ x,ρ y,h with
   |some (.pv (.int k a)),some (.pv (.int k' b)),.pv (.int OC m)=>bif decide (k=k')&&decide (k=OC) then some ⟨.pv (.int k m),none,[(if b>a then b else a)=m]⟩ else none
   |_,_,_=>none
  |.builtin .min,[x,y],_=>match ρ x,ρ y,h with
   |some (.pv (.int k a)),some (.pv (.int k' b)),.pv (.int OC m)=>bif decide (k=k')&&decide (k=OC) then some ⟨.pv (.int k m),none,[(if b<a then b else a)=m]⟩ else none
   |_,_,_=>none
  |_,_,_=>none
 |.makeFunc fn first captured=>match fn,first.toList,captured.toList with
  |.func f,[],[x]=>match ρ x with
   |some (.ptr r 0)=>fS (.AT f r)
   |_=>none
  |.func f,[],[]=>fS (.pv (.fn f))
  |_,_,_=>none
 |_=>none
def Mj(β:Nat→Option Nat)(d b:Nat):Nat→Option Nat:=fun r=>if r=d then some b else β r
def tJ(β:Nat→Option Nat)(L I:Nat→Prop)(w:World)(dst:Option Nat)(res:mN)(v:Value)(w':World):Prop :=
 AY w.heap.size w w'∧match res.new with
  |none=>RE β L (fun x=>I x∨fresh w w' x) w' res.val v
  |some cs=>∃d b,dst=some d∧fresh w w' b∧(¬L d →
    RB (Mj β d b) (fun r=>L r∨r=d) (fun x=>I x∨(fresh w w' x∧x≠b)) w' d cs.qR ∧
    RE (Mj β d b) (fun r=>L r∨r=d) (fun x=>I x∨(fresh w w' x∧x≠b)) w' res.val v)
theorem tJ.same{β:Nat→Option Nat}{L I:Nat→Prop}{w:World}{dst:Option Nat}{e:EV}{ob:List Prop}{v:Value}(h:RE β L I w e v) :
  tJ β L I w dst ⟨e,none,ob⟩ v w :=
 ⟨AY.refl _ _,h.mono (fun _ _=>rfl) (fun _ h=>h) (fun _ h => .inl h) (fun _ _ _=>rfl) (fun _ _ _ _=>rfl)⟩
theorem RE.alloc{β:Nat→Option Nat}{L I:Nat→Prop}{w:World}{e:EV}{v:Value}{d:Nat}{o:Obj}(h:RE β L I w e v)(hβ:∀r b,L r→β r=some b→b<w.heap.size)(hI:∀b,I b→b<w.heap.size)(hd:¬L d) :
  RE (Mj β d w.heap.size) (fun r=>L r∨r=d) (fun x=>I x∨(fresh w (w.alloc o) x∧x≠w.heap.size)) (w.alloc o) e v :=
 h.mono (fun r hr=>if_neg (fun sZ:r=d=>hd (sZ ▸ hr))) (fun _ h => .inl h) (fun _ h => .inl h)
  (fun b o' hb=>gy (Below.heap_alloc w o b (hI b hb)) o') (fun r b hr hb=>pQ (Below.heap_alloc w o b (hβ r b hr hb)))
theorem tJ.new{β:Nat→Option Nat}{L I:Nat→Prop}{w:World}{d:Nat}{e:EV}{cs:SC}{ob:List Prop}{v:Value}{arr:Array Value}{el:TypeId}
  (hβ:∀r b,L r→β r=some b→b<w.heap.size) (hI:∀b,I b→b<w.heap.size)
  (hc:∀(j:Nat) e,cs.qR[j]? = some e→∃u,arr[j]? = some u∧u.oneCell'=true∧RE β L I w e u)
  (he:(e = .ptr d 0∧v = .pointer (some ⟨w.heap.size,0,none⟩))∨∃n sz,e = .row d 0 n sz∧v = .slice (some ⟨w.heap.size,0,none⟩) n n∧n*sz≤arr.size) :
  tJ β L I w (some d) ⟨e,some cs,ob⟩ v (w.alloc (.cells arr el)):=by
 have pn:(w.alloc (.cells arr el)).heap[w.heap.size]? = some (.cells arr el (0,0)):=heap_alloc_new w _
 refine⟨(AY.refl _ _).alloc (Nat.le_refl _) _,d,w.heap.size,rfl,⟨Nat.le_refl _,by simp⟩,fun hd=>⟨.inr ⟨w.heap.size,arr,el,by simp[Mj],pn,fun j e' hj => ?_⟩,?_⟩⟩
 ·obtain⟨u,h1,h2,h3⟩:=hc j e' hj
  exact⟨u,h1,h2,h3.alloc hβ hI hd⟩
 ·rcases he with ⟨rfl,rfl⟩|⟨n,sz,rfl,rfl,hn⟩
  ·exact⟨.inr rfl,by simp[Mj]⟩
  ·refine⟨.inr rfl,.inr ⟨w.heap.size,n,by simp[Mj],rfl,Nat.le_refl _,el,arr.size,?_,by simpa using hn⟩⟩
   unfold World.shape?
   rw[pn]
theorem vR{sz:Nat} : ∀{xs:List (List PV)} {i j:Nat} {row:List PV} {x:PV},(∀row∈xs,row.length=sz)→xs[i]? = some row→row[j]? = some x→xs.flatten[i*sz+j]? = some x
 |[],i,j,row,x,_,h,_=>by simp at h
 |r::xs,i,j,row,x,hl,h,hx=>by
  have hr:r.length=sz:=hl r (by simp)
  cases i with
  |zero =>
   simp at h;subst h
   have hj:=(List.getElem?_eq_some_iff.1 hx).1
   rw[List.flatten_cons,List.getElem?_append,if_pos (by omega)]
   simpa using hx
  |succ i =>
   rw[List.flatten_cons,List.getElem?_append,if_neg (by rw[hr,Nat.succ_mul];omega)]
   rw[show (i+1)*sz+j-r.length=i*sz+j from by rw[hr,Nat.succ_mul];omega]
   exact vR (fun r hr=>hl r (by simp[hr])) (by simpa using h) hx
theorem tJ.Mk{β:Nat→Option Nat}{L I:Nat→Prop}{w:World}{dst:Option Nat}{cs:List PV}{xs:List (List PV)}{ob:List Prop}{n sz:Nat}{arr:Array Value}{el:TypeId}
  (hI:∀b,I b→b<w.heap.size)
  (hc:∀(j:Nat) c,cs[j]? = some c→∃u,arr[j]? = some u∧c.one=true∧Rd I w c u)
  (h1:cs=xs.flatten) (h2:n=xs.length) (h3:∀row∈xs,row.length=sz) :
  tJ β L I w dst ⟨.pv (.list xs),none,ob⟩ (.slice (some ⟨w.heap.size,0,none⟩) n n) (w.alloc (.cells arr el)):=by
 have pn:(w.alloc (.cells arr el)).heap[w.heap.size]? = some (.cells arr el (0,0)):=heap_alloc_new w _
 refine⟨(AY.refl _ _).alloc (Nat.le_refl _) _,?_⟩
 show Rd _ _ _ _
 subst h1;subst h2
 have key:∀(i j:Nat) row x,xs[i]? = some row→row[j]? = some x→∃u,arr[i*sz+j]? = some u∧x.one=true∧Rd I w x u:=fun i j row x hi hj=>hc _ x (vR h3 hi hj)
 refine .list xs w.heap.size 0 xs.length sz (fun i j=>arr.getD (i*sz+j) undef) (Nat.le_refl _) (.inr ⟨Nat.le_refl _,by simp⟩) (fun i row hi=>h3 row (List.mem_of_getElem? hi)) (fun i j row x hi hj => ?_) (fun i j row x hi hj => ?_)
 ·obtain⟨u,g1,g2,g3⟩:=key i j row x hi hj
  refine⟨g2,?_⟩
  rw[Nat.zero_add,cell_of_row _ _ _ arr el (0,0) pn,g1]
  simp[Array.getD_eq_getD_getElem?,g1]
 ·obtain⟨u,g1,g2,g3⟩:=key i j row x hi hj
  simp only[Array.getD_eq_getD_getElem?,g1,Option.getD_some]
  exact g3.mono (fun _ h => .inl h) (fun b o hb=>gy (Below.heap_alloc w _ b (hI b hb)) o)
end Go.Proofs.YtllmkadmohkbfaaGreatDoor.Sym
