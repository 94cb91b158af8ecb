/- Lemmas for the statements of this seat. -/
import Derived.Test.YtllmkadmohkbfaaGreatDoorVSymC
namespace Go.Proofs.YtllmkadmohkbfaaGreatDoor.Sym
open Go Go.RowKit
inductive SC where
 |lit (cs:List EV)
 |pure (ps:List PV)
 |heap (xs:List (Option (List PV)))
 |Hz (hs:List (Nat×Nat)) (sz:Nat)
def SC.sE:SC→List EV
 |.lit cs=>cs
 |.pure ps=>ps.map EV.pv
 |.heap _=>[]
 |.Hz hs sz=>hs.map fun x => .qM x.1 x.2 sz
abbrev aS:=List (Nat×SC)
inductive Hint where
 |none
 |pv (p:PV)
 |ev (e:EV)
 |nat (n:Nat)
 |dec (b:Bool)
 |row (k:Nat) (cells:List PV)
 |Hv (ps:List PV)
 |js (l h:Nat) (xs:List (List PV))
 |cells (cs:SC)
 |bO (σ:List (Nat×Nat)) (nw:Option (Nat×Nat)) (r:EV) (sout:aS)
 |app (len:Nat) (out:List PV)
 |nil
 |skip
 |Zd (ps out:List PV)
 |Ze (ps out:List PV) (xs:List (Option (List PV)))
 |Vs
 |Zf (n:Nat) (hs:List (Nat×Nat))
 |XZ (g:Nat) (r:PV)
 |X0 (r:EV) (hs:List (Nat×Nat)) (sz:Nat) (xs:List (Option (List PV)))
structure nZ where
 val:EV
 new:Option SC
 ob:List Prop
def I3:PV→PV
 |.dZ => .list []
 |p=>p
def kf(h:Hint)(d:TD):List PV:=match h with
 |.nil=>d.zero
 |_=>d.zero.map I3
def dP:List Prop→Prop
 |[]=>True
 |[p]=>p
 |p::r=>p∧dP r
theorem dP.cons{p:Prop}{r:List Prop}(h:dP (p::r)):p∧dP r:=by
 cases r with
 |nil=>exact⟨h,True.intro⟩
 |cons q r=>exact h
theorem dP.app:∀{l m:List Prop},dP (l++m)→dP l∧dP m
 |[],m,h=>⟨True.intro,h⟩
 |[p],m,h=>⟨h.cons.1,h.cons.2⟩
 |p::q::r,m,h=>by
  obtain⟨h1,h2⟩:=dP.cons (r:=q::r++m) h
  obtain⟨h3,h4⟩:=dP.app (l:=q::r) h2
  exact⟨⟨h1,h3⟩,h4⟩
def aS.eE:aS→Nat→Option SC
 |[],_=>none
 |(r',c)::s,r=>bif Nat.beq r' r then some c else aS.eE s r
def aS.hp(s:aS):List (Option (List PV)):=match s.eE 999999 with
 |some (.heap xs)=>xs
 |_=>[]
def rB(xs:List (Option (List PV)))(j:Nat):Option SC:=match xs[j]? with
 |some (some ps)=>some (.pure ps)
 |_=>none
def aS.get(s:aS)(r:Nat):Option SC:=bif Nat.blt r 999999 then s.eE r else bif Nat.blt r 1000000 then none else rB s.hp (r-1000000)
theorem aS.kR{s:aS}{r:Nat}(h:r<999999):s.get r=s.eE r:=by
 unfold aS.get
 rw[show Nat.blt r 999999=true from Nat.ble_eq_true_of_le h];rfl
theorem aS.hX{s:aS} : s.get 999999=none:=rfl
theorem aS.lN{s:aS}{j:Nat} : s.get (hc j)=rB s.hp j:=by
 unfold aS.get hc
 rw[show Nat.blt (1000000+j) 999999=false from Bool.eq_false_iff.2 (fun h=>by have:=Nat.le_of_ble_eq_true h;omega),
  show Nat.blt (1000000+j) 1000000=false from Bool.eq_false_iff.2 (fun h=>by have:=Nat.le_of_ble_eq_true h;omega)]
 show rB s.hp (1000000+j-1000000)=_
 rw[Nat.add_sub_cancel_left]
theorem Fq(x:Nat):x<999999∨x=999999∨∃j,x=hc j:=by
 unfold hc
 by_cases h:x<999999
 ·exact .inl h
 ·by_cases h2:x=999999
  ·exact .inr (.inl h2)
  ·exact .inr (.inr ⟨x-1000000,by omega⟩)
def gJ(e:EV):Option nZ:=some ⟨e,none,[]⟩
def qP:List EV→Option (List PV)
 |[]=>some []
 |.pv p::r=>match qP r with
  |some ps=>some (p::ps)
  |none=>none
 |_::_=>none
def rC:EV→Option (List EV)
 |.pv p=>bif p.wc then none else some (p.cells.map EV.pv)
 |.dead=>none
 |.pA .. => none
 |.Cu .. => none
 |e=>some [e]
def Ob(T:kL)(t:TypeId):PV→Bool
 |.bool _=>match T.get t with
  |some d=>match d.kind with
   |.bool=>true
   |_=>false
  |none=>false
 |.az=>match T.get t with
  |some d=>match d.kind with
   |.iface=>true
   |_=>false
  |none=>false
 |.iface _ _=>match T.get t with
  |some d=>match d.kind with
   |.iface=>true
   |_=>false
  |none=>false
 |_=>true
def pD(ρ:Operand→Option EV):List (Nat×Operand)→Option (List (Nat×PV))
 |[]=>some []
 |(i,x)::r=>match ρ x,pD ρ r with
  |some (.pv p),some ps=>some ((i,p)::ps)
  |_,_=>none
def HA(h:Hint)(f:Option (List PV)):Option (List PV×List Prop):=match h with
 |.app _ out=>some (out,[f=some out])
 |_=>match f with
  |some cs=>some (cs,[])
  |none=>none
theorem Fs{h:Hint}{f:Option (List PV)}{cs:List PV}{ob:List Prop}(e:HA h f=some (cs,ob)):(dP ob→f=some cs)∧∀l u xs,h = .js l u xs→ob=[]:=by
 unfold HA at e
 split at e
 ·injection e with e;injection e with e1 e2
  subst e1;subst e2
  exact⟨fun h=>h,fun l u xs h=>by cases h⟩
 ·split at e
  ·injection e with e;injection e with e1 e2
   subst e1;subst e2
   exact⟨fun _=>rfl,fun _ _ _ _=>rfl⟩
  ·cases e
def D1(d:TD)(cells:List EV)(off:Nat)(h:Hint):Option nZ :=
 bif d.agg then
  match h with
  |.Hv ps=>some ⟨.pv (.agg ps),none,[(cells.drop off).take d.size=ps.map EV.pv,ps.length=d.size]⟩
  |_=>match qP ((cells.drop off).take d.size) with
   |some ps=>bif Nat.beq ps.length d.size then gJ (.pv (.agg ps)) else none
   |none=>none
 else match h with
  |.ev e=>some ⟨e,none,[cells[off]? = some e]⟩
  |_=>match cells[off]? with
   |some e=>gJ e
   |none=>none
def we(size:Nat)(e:EV)(l h:Nat)(xs:List (List PV))(ob:List Prop):Option nZ :=
 match e with
 |.pv (.list ys)=>some ⟨.pv (.list xs),none,ob++[l≤h,h≤ys.length,(ys.take h).drop l=xs,∀row∈xs,row.length=size]⟩
 |.row r off len sz=>match xs with
  |[]=>some ⟨.row r (off+l*sz) (h-l) sz,none,ob++[l=0∨l<h,l≤h,h≤len]⟩
  |_::_=>some ⟨.pv (.list []),none,ob++[l=h,h≤len]⟩
 |_=>none
def Oc(ρ:Operand→Option EV)(o:Option Operand)(d:EV):Option EV:=match o with
 |some y=>ρ y
 |none=>some d
def mZ:EV→Option Nat
 |.pv (.list xs)=>some xs.length
 |.row _ _ len _=>some len
 |.qM _ len _=>some len
 |_=>none
def cf(T:kL)(aG:aS)(dst:Option Nat)(op:Op)(ρ:Operand→Option EV)(h:Hint):Option nZ :=
 match op with
 |.move x=>match ρ x with
  |some e=>gJ e
  |none=>none
 |.assign x=>match h,x with
  |.nil,.const (.slice none 0 0)=>gJ (.pv .dZ)
  |_,_=>match ρ x with
   |some e=>gJ e
   |none=>none
 |.pick c a b=>match ρ c,h with
  |some (.pv (.bool t)),.dec d=>match ρ (bif d then a else b) with
   |some e=>some ⟨e,none,[t=d]⟩
   |none=>none
  |some (.pv (.bool t)),.none=>match ρ (bif t then a else b) with
   |some e=>some ⟨e,none,[]⟩
   |none=>none
  |_,_=>none
 |.alloc t=>match T.get t,dst with
  |some d,some r=>some ⟨.ptr r 0,some (.lit ((kf h d).map EV.pv)),[]⟩
  |_,_=>none
 |.box _ x=>match ρ x,dst with
  |some e,some r=>match rC e with
   |some cs=>some ⟨.ptr r 0,some (.lit cs),[]⟩
   |none=>none
  |_,_=>none
 |.build t parts=>match T.get t,pD ρ parts.toList with
  |some d,some ps=>match d.kind with
   |.struct fs=>match rA (lk fs) (kf h d) ps with
    |some cs=>gJ (.pv (.agg cs))
    |none=>none
   |_=>none
  |_,_=>none
 |.buildSlice t n parts=>match T.get t,pD ρ parts.toList,dst with
  |some d,some ps,some r=>match d.kind with
   |.slice e=>match T.get e with
    |some de=>bif Nat.ble (n*de.size) 4096&&Nat.ble 1 de.size then
      match HA h (rA (fun i=>some (i*de.size,de.size)) ((List.replicate n (kf h de)).flatten) ps) with
      |some (cs,ob)=>match h with
       |.js _ _ xs=>some ⟨.pv (.list xs),none,[cs=xs.flatten,n=xs.length,∀row∈xs,row.length=de.size]⟩
       |_=>some ⟨.row r 0 n de.size,some (.pure cs),ob⟩
      |none=>none
     else none
    |none=>none
   |_=>none
  |_,_,_=>none
 |.load t x=>match T.get t,ρ x with
  |some d,some (.ptr r off)=>match aG.get r with
   |some sc=>D1 d sc.sE off h
   |none=>none
  |some d,some (.pz cells)=>bif d.agg then (bif Nat.ble d.size cells.length then gJ (.pv (.agg (cells.take d.size))) else none) else match cells with
   |p::_=>gJ (.pv p)
   |[]=>none
  |_,_=>none
 |.nilCheck x=>match ρ x with
  |some (.ptr r off)=>gJ (.ptr r off)
  |some (.pz c)=>gJ (.pz c)
  |some (.oA j off)=>gJ (.oA j off)
  |_=>none
 |.binOp op t x y _=>match ρ x,ρ y with
  |some (.pv p),some (.pv q)=>bif Ob T t p then (match h with
    |.pv r=>some ⟨.pv r,none,[eC (Lu x||Lu y) op p q=some r]⟩
    |_=>match eC (Lu x||Lu y) op p q with
     |some r=>gJ (.pv r)
     |none=>none) else none
  |_,_=>none
 |.unOp op _ x=>match ρ x with
  |some (.pv p)=>match h with
   |.pv r=>some ⟨.pv r,none,[C0 op p=some r]⟩
   |_=>match C0 op p with
    |some r=>gJ (.pv r)
    |none=>none
  |_=>none
 |.convert s t x=>match T.get s,T.get t,ρ x with
  |some _,some d,some (.pv (.int _ n))=>match d.kind with
   |.int k=>match h with
    |.pv (.int k' m)=>bif decide (k=k') then some ⟨.pv (.int k m),none,[k.wrap n=m]⟩ else none
    |_=>gJ (.pv (.int k (k.wrap n)))
   |_=>none
  |_,_,_=>none
 |.makeInterface t x=>match T.get t,ρ x with
  |some d,some (.pv p)=>match d.kind with
   |.iface=>none
   |.other=>none
   |_=>gJ (.pv (.iface t p))
  |_,_=>none
 |.makeSlice t l c=>match T.get t,ρ l,ρ c,dst,h with
  |some d,some (.pv (.int .i64 n)),some (.pv (.int .i64 n')),some r,.app m out=>match d.kind with
   |.slice e=>match T.get e with
    |some de=>bif Nat.ble 1 de.size then some ⟨.row r 0 m de.size,some (.pure out),[n=(m:Int),n'=(m:Int),de.bytes*m≤140737488355328,m<9223372036854775808,(List.replicate m (kf .none de)).flatten=out]⟩ else none
    |none=>none
   |_=>none
  |_,_,_,_,_=>none
 |.slice t x lo hi mx=>match T.get t,ρ x,mx,h with
  |some d,some e,none,.js l u xs=>match d.kind with
   |.slice el=>match T.get el,e with
    |some de,.row r off len sz=>bif Nat.beq de.size sz then
      (match Oc ρ lo (.pv (.int .i64 0)),Oc ρ hi (.pv (.int .i64 len)) with
      |some (.pv (.int _ a)),some (.pv (.int _ b))=>we sz (.row r off len sz) l u xs [a=(l:Int),b=(u:Int)]
      |_,_=>none) else none
    |some de,.pv (.list ys) =>
      (match Oc ρ lo (.pv (.int .i64 0)),Oc ρ hi (.pv (.int .i64 ys.length)) with
      |some (.pv (.int _ a)),some (.pv (.int _ b))=>we de.size (.pv (.list ys)) l u xs [a=(l:Int),b=(u:Int)]
      |_,_=>none)
    |_,_=>none
   |_=>none
  |_,_,_,_=>none
 |.fieldAddr t x f=>match T.get t,ρ x with
  |some d,some e=>match d.kind with
   |.struct fs=>match fs[f]? with
    |some (off,size,_)=>bif Nat.ble 1 size then (match e with
      |.ptr r o=>gJ (.ptr r (o+off))
      |.pz cs=>gJ (.pz (cs.drop off))
      |.oA j o=>gJ (.oA j (o+off))
      |_=>none) else none
    |none=>none
   |_=>none
  |_,_=>none
 |.field t x f=>match T.get t,ρ x with
  |some d,some (.pv (.agg cs))=>match d.kind with
   |.struct fs=>match fs[f]? with
    |some (off,size,agg)=>match AB cs off size agg with
     |some p=>gJ (.pv p)
     |none=>none
    |none=>none
   |_=>none
  |_,_=>none
 |.indexAddr t x i=>match T.get t,ρ x,ρ i with
  |some d,some e,some (.pv (.int _ n))=>match d.kind with
   |.slice el=>match T.get el with
    |some de=>match e,h with
     |.row r off len sz,.nat k=>bif Nat.beq sz de.size then some ⟨.ptr r (off+k*sz),none,[n=(k:Int),k<len]⟩ else none
     |.qM j len sz,.nat k=>bif Nat.beq sz de.size then some ⟨.oA j (k*sz),none,[n=(k:Int),k<len]⟩ else none
     |.pv (.list xs),.row k row=>some ⟨.pz row,none,[n=(k:Int),xs[k]? = some row,row.length=de.size]⟩
     |_,_=>none
    |none=>none
   |.array len el=>match T.get el with
    |some de=>match e,h with
     |.ptr r off,.nat k=>some ⟨.ptr r (off+k*de.size),none,[n=(k:Int),k<len]⟩
     |_,_=>none
    |none=>none
   |_=>none
  |_,_,_=>none
 |.index t x i=>match T.get t,ρ x,ρ i,h with
  |some d,some (.pv (.agg cs)),some (.pv (.int _ n)),.row k row=>match d.kind with
   |.array len el=>match T.get el with
    |some de=>bif de.agg then some ⟨.pv (.agg row),none,[n=(k:Int),k<len,k*de.size+de.size≤cs.length,(cs.drop (k*de.size)).take de.size=row]⟩ else none
    |none=>none
   |_=>none
  |some d,some (.pv (.str s)),some (.pv (.int _ n)),.row k [.int .u8 m]=>match d.kind with
   |.str=>some ⟨.pv (.int .u8 m),none,[n=(k:Int),(s.data.toList[k]?).map (fun b=>(b.toNat:Int))=some m]⟩
   |_=>none
  |_,_,_,_=>none
 |.extract x i=>match ρ x with
  |some (.pv (.aB vs))=>match vs[i]? with
   |some p=>gJ (.pv p)
   |none=>none
  |some (.pA r off len sz ps)=>match i with
   |0=>gJ (.row r off len sz)
   |j+1=>match ps[j]? with
    |some p=>gJ (.pv p)
    |none=>none
  |_=>none
 |.typeAssert x _ t true=>match T.get t,ρ x with
  |some d,some (.pv (.iface u p))=>match d.kind with
   |.int _=>bif Nat.beq u t then gJ (.pv (.aB [p,.bool true])) else none
   |_=>none
  |_,_=>none
 |.call c=>match c.callee,c.args.toList,c.argTypes.toList with
  |.builtin .len,[x],[t]=>match T.get t,ρ x with
   |some d,some e=>match d.kind,mZ e with
    |.slice _,some n=>(match h with
     |.pv (.int .i64 m)=>some ⟨.pv (.int .i64 m),none,[(n:Int)=m]⟩
     |_=>gJ (.pv (.int .i64 n)))
    |.str,_=>(match e,h with
     |.pv (.str s),.pv (.int .i64 m)=>some ⟨.pv (.int .i64 m),none,[(s.size:Int)=m]⟩
     |_,_=>none)
    |_,_=>none
   |_,_=>none
  |.builtin .max,[x,y],_=>match ρ x,ρ y,h with
   |some (.pv (.int k a)),some (.pv (.int k' b)),.pv (.int QD m)=>bif decide (k=k')&&decide (k=QD) then some ⟨.pv (.int k m),none,[(if b>a then b else a)=m]⟩ else none
   |_,_,_=>none
  |.builtin .min,[x,y],_=>match ρ x,ρ y,h with
   |some (.pv (.int k a)),some (.pv (.int k' b)),.pv (.int QD m)=>bif decide (k=k')&&decide (k=QD) then some ⟨.pv (.int k m),none,[(if b<a then b else a)=m]⟩ else none
   |_,_,_=>none
  |_,_,_=>none
 |.makeFunc fn first captured=>match fn,first.toList,captured.toList with
  |.func f,[],[x]=>match ρ x with
   |some (.ptr r 0)=>gJ (.Cu f r)
   |_=>none
  |.func f,[],[]=>gJ (.pv (.fn f))
  |_,_,_=>none
 |_=>none
def Od(β:Nat→Option Nat)(d b:Nat):Nat→Option Nat:=fun r=>if r=d then some b else β r
def vh(β:Nat→Option Nat)(L I:Nat→Prop)(w:World)(dst:Option Nat)(res:nZ)(v:Value)(w':World):Prop :=
 Cy w.heap.size w w'∧match res.new with
  |none=>RE β L (fun x=>I x∨fresh w w' x) w' res.val v
  |some cs=>∃d b,dst=some d∧fresh w w' b∧(¬L d →
    RB (Od β d b) (fun r=>L r∨r=d) (fun x=>I x∨(fresh w w' x∧x≠b)) w' d cs.sE ∧
    RE (Od β d b) (fun r=>L r∨r=d) (fun x=>I x∨(fresh w w' x∧x≠b)) w' res.val v)
theorem vh.same{β:Nat→Option Nat}{L I:Nat→Prop}{w:World}{dst:Option Nat}{e:EV}{ob:List Prop}{v:Value}(h:RE β L I w e v) :
  vh β L I w dst ⟨e,none,ob⟩ v w :=
 ⟨Cy.refl _ _,h.mono (fun _ _=>rfl) (fun _ h=>h) (fun _ h => .inl h) (fun _ _ _=>rfl) (fun _ _ _ _=>rfl)⟩
theorem RE.alloc{β:Nat→Option Nat}{L I:Nat→Prop}{w:World}{e:EV}{v:Value}{d:Nat}{o:Obj}(h:RE β L I w e v)(hβ:∀r b,L r→β r=some b→b<w.heap.size)(hI:∀b,I b→b<w.heap.size)(hd:¬L d) :
  RE (Od β d w.heap.size) (fun r=>L r∨r=d) (fun x=>I x∨(fresh w (w.alloc o) x∧x≠w.heap.size)) (w.alloc o) e v :=
 h.mono (fun r hr=>if_neg (fun uE:r=d=>hd (uE ▸ hr))) (fun _ h => .inl h) (fun _ h => .inl h)
  (fun b o' hb=>ig (Below.heap_alloc w o b (hI b hb)) o') (fun r b hr hb=>rr (Below.heap_alloc w o b (hβ r b hr hb)))
theorem vh.new{β:Nat→Option Nat}{L I:Nat→Prop}{w:World}{d:Nat}{e:EV}{cs:SC}{ob:List Prop}{v:Value}{arr:Array Value}{el:TypeId}
  (hβ:∀r b,L r→β r=some b→b<w.heap.size) (hI:∀b,I b→b<w.heap.size)
  (hc:∀(j:Nat) e,cs.sE[j]? = some e→∃u,arr[j]? = some u∧u.oneCell'=true∧RE β L I w e u)
  (he:(e = .ptr d 0∧v = .pointer (some ⟨w.heap.size,0,none⟩))∨∃n sz,e = .row d 0 n sz∧v = .slice (some ⟨w.heap.size,0,none⟩) n n∧n*sz≤arr.size) :
  vh β L I w (some d) ⟨e,some cs,ob⟩ v (w.alloc (.cells arr el)):=by
 have qQ:(w.alloc (.cells arr el)).heap[w.heap.size]? = some (.cells arr el (0,0)):=heap_alloc_new w _
 refine⟨(Cy.refl _ _).alloc (Nat.le_refl _) _,d,w.heap.size,rfl,⟨Nat.le_refl _,by simp⟩,fun hd=>⟨.inr ⟨w.heap.size,arr,el,by simp[Od],qQ,fun j e' hj => ?_⟩,?_⟩⟩
 ·obtain⟨u,h1,h2,h3⟩:=hc j e' hj
  exact⟨u,h1,h2,h3.alloc hβ hI hd⟩
 ·rcases he with ⟨rfl,rfl⟩|⟨n,sz,rfl,rfl,hn⟩
  ·exact⟨.inr rfl,by simp[Od]⟩
  ·refine⟨.inr rfl,.inr ⟨w.heap.size,n,by simp[Od],rfl,Nat.le_refl _,el,arr.size,?_,by simpa using hn⟩⟩
   unfold World.shape?
   rw[qQ]
theorem xA{sz:Nat} : ∀{xs:List (List PV)} {i j:Nat} {row:List PV} {x:PV},(∀row∈xs,row.length=sz)→xs[i]? = some row→row[j]? = some x→xs.flatten[i*sz+j]? = some x
 |[],i,j,row,x,_,h,_=>by simp at h
 |r::xs,i,j,row,x,hl,h,hx=>by
  have hr:r.length=sz:=hl r (by simp)
  cases i with
  |zero =>
   simp at h;subst h
   have hj:=(List.getElem?_eq_some_iff.1 hx).1
   rw[List.flatten_cons,List.getElem?_append,if_pos (by omega)]
   simpa using hx
  |succ i =>
   rw[List.flatten_cons,List.getElem?_append,if_neg (by rw[hr,Nat.succ_mul];omega)]
   rw[show (i+1)*sz+j-r.length=i*sz+j from by rw[hr,Nat.succ_mul];omega]
   exact xA (fun r hr=>hl r (by simp[hr])) (by simpa using h) hx
theorem vh.Oe{β:Nat→Option Nat}{L I:Nat→Prop}{w:World}{dst:Option Nat}{cs:List PV}{xs:List (List PV)}{ob:List Prop}{n sz:Nat}{arr:Array Value}{el:TypeId}
  (hI:∀b,I b→b<w.heap.size)
  (hc:∀(j:Nat) c,cs[j]? = some c→∃u,arr[j]? = some u∧c.one=true∧Rd I w c u)
  (h1:cs=xs.flatten) (h2:n=xs.length) (h3:∀row∈xs,row.length=sz) :
  vh β L I w dst ⟨.pv (.list xs),none,ob⟩ (.slice (some ⟨w.heap.size,0,none⟩) n n) (w.alloc (.cells arr el)):=by
 have qQ:(w.alloc (.cells arr el)).heap[w.heap.size]? = some (.cells arr el (0,0)):=heap_alloc_new w _
 refine⟨(Cy.refl _ _).alloc (Nat.le_refl _) _,?_⟩
 show Rd _ _ _ _
 subst h1;subst h2
 have key:∀(i j:Nat) row x,xs[i]? = some row→row[j]? = some x→∃u,arr[i*sz+j]? = some u∧x.one=true∧Rd I w x u:=fun i j row x hi hj=>hc _ x (xA h3 hi hj)
 refine .list xs w.heap.size 0 xs.length sz (fun i j=>arr.getD (i*sz+j) undef) (Nat.le_refl _) (.inr ⟨Nat.le_refl _,by simp⟩) (fun i row hi=>h3 row (List.mem_of_getElem? hi)) (fun i j row x hi hj => ?_) (fun i j row x hi hj => ?_)
 ·obtain⟨u,g1,g2,g3⟩:=key i j row x hi hj
  refine⟨g2,?_⟩
  rw[Nat.zero_add,cell_of_row _ _ _ arr el (0,0) qQ,g1]
  simp[Array.getD_eq_getD_getElem?,g1]
 ·obtain⟨u,g1,g2,g3⟩:=key i j row x hi hj
  simp only[Array.getD_eq_getD_getElem?,g1,Option.getD_some]
  exact g3.mono (fun _ h => .inl h) (fun b o hb=>ig (Below.heap_alloc w _ b (hI b hb)) o)
end Go.Proofs.YtllmkadmohkbfaaGreatDoor.Sym
