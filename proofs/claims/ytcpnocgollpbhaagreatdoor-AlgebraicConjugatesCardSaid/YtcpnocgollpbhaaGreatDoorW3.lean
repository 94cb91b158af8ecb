/- Lemmas for the statements of this seat. -/
import Derived.Test.YtcpnocgollpbhaaGreatDoorW2
namespace Go.Proofs.YtcpnocgollpbhaaGreatDoor.Sym
open Go Go.RowKit
inductive SC where
 |lit (cs:List EV)
 |pure (ps:List PV)
 |heap (xs:List (Option (List PV)))
 |Jl (hs:List (Nat×Nat)) (sz:Nat)
 |Jm (hs:List (ByteArray×Nat×Nat)) (sz:Nat)
def NU(H:List (ByteArray×Nat×Nat))(sz:Nat):List EV:=H.flatMap fun x=>[.pv (.str x.1),.ji x.2.1 x.2.2 sz]
def SC.rI:SC→List EV
 |.lit cs=>cs
 |.pure ps=>ps.map EV.pv
 |.heap _=>[]
 |.Jl hs sz=>hs.map fun x => .ji x.1 x.2 sz
 |.Jm hs sz=>NU hs sz
abbrev aS:=List (Nat×SC)
inductive Hint where
 |none
 |pv (p:PV)
 |ev (e:EV)
 |nat (n:Nat)
 |dec (b:Bool)
 |row (k:Nat) (cells:List PV)
 |Ns (ps:List PV)
 |fR (l h:Nat) (xs:List (List PV))
 |cells (cs:SC)
 |bG (σ:List (Nat×Nat)) (nw:Option (Nat×Nat)) (r:EV) (sout:aS)
 |app (len:Nat) (out:List PV)
 |nil
 |skip
 |acZ (ps out:List PV)
 |ad0 (ps out:List PV) (xs:List (Option (List PV)))
 |Y9
 |ad1 (n:Nat) (hs:List (Nat×Nat))
 |abA (g:Nat) (r:PV)
 |abB (news:List (Nat×Nat)) (fs:List FE) (sout:List (Nat×SC))
 |abC (r:EV) (hs:List (Nat×Nat)) (sz:Nat) (xs:List (Option (List PV)))
 |Za
 |ad2 (n:Nat) (out:SC)
 |abD (news:List (Nat×Nat)) (fs:List FE) (sout:List (Nat×SC)) (xs:List (Option (List PV)))
structure oq where
 val:EV
 new:Option SC
 ob:List Prop
def KM:PV→PV
 |.dX => .list []
 |p=>p
def jk(h:Hint)(d:TD):List PV:=match h with
 |.nil=>d.zero
 |_=>d.zero.map KM
def dK:List Prop→Prop
 |[]=>True
 |[p]=>p
 |p::r=>p∧dK r
theorem dK.cons{p:Prop}{r:List Prop}(h:dK (p::r)):p∧dK r:=by
 cases r with
 |nil=>exact⟨h,True.intro⟩
 |cons q r=>exact h
theorem dK.app:∀{l m:List Prop},dK (l++m)→dK l∧dK m
 |[],m,h=>⟨True.intro,h⟩
 |[p],m,h=>⟨h.cons.1,h.cons.2⟩
 |p::q::r,m,h=>by obtain⟨h1,h2⟩:=dK.cons (r:=q::r++m) h;obtain⟨h3,h4⟩:=dK.app (l:=q::r) h2;exact⟨⟨h1,h3⟩,h4⟩
def aS.ej:aS→Nat→Option SC
 |[],_=>none
 |(r',c)::s,r=>bif Nat.beq r' r then some c else aS.ej s r
def aS.hp(s:aS):List (Option (List PV)):=match s.ej 999999 with
 |some (.heap xs)=>xs
 |_=>[]
def rR(xs:List (Option (List PV)))(j:Nat):Option SC:=match xs[j]? with
 |some (some ps)=>some (.pure ps)
 |_=>none
def aS.get(s:aS)(r:Nat):Option SC:=bif Nat.blt r 999999 then s.ej r else bif Nat.blt r 1000000 then none else rR s.hp (r-1000000)
theorem aS.k8{s:aS}{r:Nat}(h:r<999999):s.get r=s.ej r:=by unfold aS.get;rw[show Nat.blt r 999999=true from ahi h];rfl
theorem aS.gY{s:aS} : s.get 999999=none:=rfl
theorem aS.lX{s:aS}{j:Nat} : s.get (hc j)=rR s.hp j:=by
 unfold aS.get hc;rw[show Nat.blt (1000000+j) 999999=false from ahv.2 (fun h=>by have:=afS h;omega),
  show Nat.blt (1000000+j) 1000000=false from ahv.2 (fun h=>by have:=afS h;omega)]
 show rR s.hp (1000000+j-1000000)=_;rw[aj2]
theorem Hg(x:Nat):x<999999∨x=999999∨∃j,x=hc j:=by
 unfold hc;by_cases h:x<999999
 ·exact .inl h
 ·by_cases h2:x=999999
  ·exact .inr (.inl h2)
  ·exact .inr (.inr ⟨x-1000000,by omega⟩)
def fU(e:EV):Option oq:=some ⟨e,none,[]⟩
def pO:List EV→Option (List PV)
 |[]=>some []
 |.pv p::r=>match pO r with
  |some ps=>some (p::ps)
  |none=>none
 |_::_=>none
def FE.ev:FE→EV
 |.pv p => .pv p
 |.row r off len sz => .row r off len sz
 |.ji j len sz => .ji j len sz
def lY:List EV→Option (List FE)
 |[]=>some []
 |.pv p::r=>match lY r with
  |some fs=>some (.pv p::fs)
  |none=>none
 |.row x off len sz::r=>match lY r with
  |some fs=>some (.row x off len sz::fs)
  |none=>none
 |.ji j len sz::r=>match lY r with
  |some fs=>some (.ji j len sz::fs)
  |none=>none
 |_::_=>none
def nF:EV→Option (List EV)
 |.mW fs=>some (fs.map FE.ev)
 |.pv p=>bif p.ti then none else some (p.cells.map EV.pv)
 |.dead=>none
 |.oy .. => none
 |.Av .. => none
 |e=>some [e]
def QX(T:kL)(t:TypeId):PV→Bool
 |.bool _=>match T.get t with
  |some d=>match d.kind with
   |.bool=>true
   |_=>false
  |none=>false
 |.ay=>match T.get t with
  |some d=>match d.kind with
   |.iface=>true
   |_=>false
  |none=>false
 |.iface _ _=>match T.get t with
  |some d=>match d.kind with
   |.iface=>true
   |_=>false
  |none=>false
 |.agg cs=>match T.get t with
  |some d => !d.QG.isEmpty&&kZ d.QG cs
  |none=>false
 |_=>true
def pP(ρ:Operand→Option EV):List (Nat×Operand)→Option (List (Nat×PV))
 |[]=>some []
 |(i,x)::r=>match ρ x,pP ρ r with
  |some (.pv p),some ps=>some ((i,p)::ps)
  |_,_=>none
def rS(ρ:Operand→Option EV):List (Nat×Operand)→Option (List (Nat×List FE))
 |[]=>some []
 |(i,x)::r=>match (ρ x).bind fun e=>(nF e).bind lY,rS ρ r with
  |some fs,some ps=>some ((i,fs)::ps)
  |_,_=>none
def Jn(h:Hint)(f:Option (List PV)):Option (List PV×List Prop):=match h with
 |.app _ out=>some (out,[f=some out])
 |_=>match f with
  |some cs=>some (cs,[])
  |none=>none
theorem Hh{h:Hint}{f:Option (List PV)}{cs:List PV}{ob:List Prop}(e:Jn h f=some (cs,ob)):(dK ob→f=some cs)∧∀l u xs,h = .fR l u xs→ob=[]:=by
 unfold Jn at e;split at e
 ·injection e with e;injection e with e1 e2
  subst e1;subst e2;exact⟨fun h=>h,fun l u xs h=>by cases h⟩
 ·split at e
  ·injection e with e;injection e with e1 e2
   subst e1;subst e2;exact⟨fun _=>rfl,fun _ _ _ _=>rfl⟩
  ·cases e
def Fg(d:TD)(cells:List EV)(off:Nat)(h:Hint):Option oq :=
 bif d.agg then
  match h with
  |.Ns ps=>some ⟨.pv (.agg ps),none,[(cells.drop off).take d.size=ps.map EV.pv,ps.length=d.size]⟩
  |.ev (.mW fs)=>some ⟨.mW fs,none,[(cells.drop off).take d.size=fs.map FE.ev,fs.length=d.size]⟩
  |_=>match pO ((cells.drop off).take d.size) with
   |some ps=>bif Nat.beq ps.length d.size then fU (.pv (.agg ps)) else none
   |none=>match lY ((cells.drop off).take d.size) with
    |some fs=>bif Nat.beq fs.length d.size then fU (.mW fs) else none
    |none=>none
 else match h with
  |.ev e=>some ⟨e,none,[cells[off]? = some e]⟩
  |_=>match cells[off]? with
   |some e=>fU e
   |none=>none
def wU(size:Nat)(e:EV)(l h:Nat)(xs:List (List PV))(ob:List Prop):Option oq :=
 match e with
 |.pv (.list ys)=>some ⟨.pv (.list xs),none,ob++[l≤h,h≤ys.length,(ys.take h).drop l=xs,∀row∈xs,row.length=size]⟩
 |.row r off len sz=>match xs with
  |[]=>some ⟨.row r (off+l*sz) (h-l) sz,none,ob++[l=0∨l<h,l≤h,h≤len]⟩
  |_::_=>some ⟨.pv (.list []),none,ob++[l=h,h≤len]⟩
 |_=>none
def NV(ρ:Operand→Option EV)(o:Option Operand)(d:EV):Option EV:=match o with
 |some y=>ρ y
 |none=>some d
def lZ:EV→Option Nat
 |.pv (.list xs)=>some xs.length
 |.row _ _ len _=>some len
 |.ji _ len _=>some len
 |_=>none
def bW(T:kL)(aG:aS)(dst:Option Nat)(op:Op)(ρ:Operand→Option EV)(h:Hint):Option oq :=
 match op with
 |.move x=>match ρ x with
  |some e=>fU e
  |none=>none
 |.assign x=>match h,x with
  |.nil,.const (.slice none 0 0)=>fU (.pv .dX)
  |_,_=>match ρ x with
   |some e=>fU e
   |none=>none
 |.pick c a b=>match ρ c,h with
  |some (.pv (.bool t)),.dec d=>match ρ (bif d then a else b) with
   |some e=>some ⟨e,none,[t=d]⟩
   |none=>none
  |some (.pv (.bool t)),.none=>match ρ (bif t then a else b) with
   |some e=>some ⟨e,none,[]⟩
   |none=>none
  |_,_=>none
 |.alloc t=>match T.get t,dst with
  |some d,some r=>some ⟨.ptr r 0,some (.lit ((jk h d).map EV.pv)),[]⟩
  |_,_=>none
 |.box _ x=>match ρ x,dst with
  |some e,some r=>match nF e with
   |some cs=>some ⟨.ptr r 0,some (.lit cs),[]⟩
   |none=>none
  |_,_=>none
 |.build t parts=>match T.get t,pP ρ parts.toList with
  |some d,some ps=>match d.kind with
   |.struct fs=>match rQ (eN fs) (jk h d) ps with
    |some cs=>fU (.pv (.agg cs))
    |none=>none
   |_=>none
  |some d,none=>match d.kind,rS ρ parts.toList with
   |.struct fs,some ps=>match A9 (eN fs) ((jk h d).map FE.pv) ps with
    |some cs=>fU (.mW cs)
    |none=>none
   |_,_=>none
  |_,_=>none
 |.buildSlice t n parts=>match T.get t,pP ρ parts.toList,dst with
  |some d,some ps,some r=>match d.kind with
   |.slice e=>match T.get e with
    |some de=>bif Nat.ble (n*de.size) 4096&&Nat.ble 1 de.size then
      match Jn h (rQ (fun i=>some (i*de.size,de.size)) ((List.replicate n (jk h de)).flatten) ps) with
      |some (cs,ob)=>match h with
       |.fR _ _ xs=>some ⟨.pv (.list xs),none,[cs=xs.flatten,n=xs.length,∀row∈xs,row.length=de.size]⟩
       |_=>some ⟨.row r 0 n de.size,some (.pure cs),ob⟩
      |none=>none
     else none
    |none=>none
   |_=>none
  |_,_,_=>none
 |.load t x=>match T.get t,ρ x with
  |some d,some (.ptr r off)=>match aG.get r with
   |some sc=>Fg d sc.rI off h
   |none=>none
  |some d,some (.ox cells)=>bif d.agg then (bif Nat.ble d.size cells.length then fU (.pv (.agg (cells.take d.size))) else none) else match cells with
   |p::_=>fU (.pv p)
   |[]=>none
  |_,_=>none
 |.nilCheck x=>match ρ x with
  |some (.ptr r off)=>fU (.ptr r off)
  |some (.ox c)=>fU (.ox c)
  |some (.n7 j off)=>fU (.n7 j off)
  |_=>none
 |.binOp op t x y _=>match ρ x,ρ y with
  |some (.pv p),some (.pv q)=>bif QX T t p then (match h with
    |.pv r=>some ⟨.pv r,none,[ei (NS x||NS y) op p q=some r]⟩
    |_=>match ei (NS x||NS y) op p q with
     |some r=>fU (.pv r)
     |none=>none) else none
  |_,_=>none
 |.unOp op _ x=>match ρ x with
  |some (.pv p)=>match h with
   |.pv r=>some ⟨.pv r,none,[D4 op p=some r]⟩
   |_=>match D4 op p with
    |some r=>fU (.pv r)
    |none=>none
  |_=>none
 |.convert s t x=>match T.get s,T.get t,ρ x with
  |some _,some d,some (.pv (.int _ n))=>match d.kind with
   |.int k=>match h with
    |.pv (.int k' m)=>bif decide (k=k') then some ⟨.pv (.int k m),none,[k.wrap n=m]⟩ else none
    |_=>fU (.pv (.int k (k.wrap n)))
   |_=>none
  |_,_,_=>none
 |.makeInterface t x=>match T.get t,ρ x with
  |some d,some (.pv p)=>match d.kind with
   |.iface=>none
   |.other=>none
   |_=>fU (.pv (.iface t p))
  |_,_=>none
 |.makeSlice t l c=>match T.get t,ρ l,ρ c,dst,h with
  |some d,some (.pv (.int .i64 n)),some (.pv (.int .i64 n')),some r,.app m out=>match d.kind with
   |.slice e=>match T.get e with
    |some de=>bif Nat.ble 1 de.size then some ⟨.row r 0 m de.size,some (.pure out),[n=(m:Int),n'=(m:Int),de.bytes*m≤140737488355328,m<9223372036854775808,(List.replicate m (jk .none de)).flatten=out]⟩ else none
    |none=>none
   |_=>none
  |_,_,_,_,_=>none
 |.slice t x lo hi mx=>match T.get t,ρ x,mx,h with
  |some d,some e,none,.fR l u xs=>match d.kind with
   |.slice el=>match T.get el,e with
    |some de,.row r off len sz=>bif Nat.beq de.size sz then
      (match NV ρ lo (.pv (.int .i64 0)),NV ρ hi (.pv (.int .i64 len)) with
      |some (.pv (.int _ a)),some (.pv (.int _ b))=>wU sz (.row r off len sz) l u xs [a=(l:Int),b=(u:Int)]
      |_,_=>none) else none
    |some de,.pv (.list ys) =>
      (match NV ρ lo (.pv (.int .i64 0)),NV ρ hi (.pv (.int .i64 ys.length)) with
      |some (.pv (.int _ a)),some (.pv (.int _ b))=>wU de.size (.pv (.list ys)) l u xs [a=(l:Int),b=(u:Int)]
      |_,_=>none)
    |_,_=>none
   |.str=>match e with
    |.pv (.str bs)=>(match NV ρ lo (.pv (.int .i64 0)),NV ρ hi (.pv (.int .i64 bs.size)) with
      |some (.pv (.int _ a)),some (.pv (.int _ b))=>some ⟨.pv (.str (bs.extract l u)),none,[a=(l:Int),b=(u:Int),l≤u,u≤bs.size]⟩
      |_,_=>none)
    |_=>none
   |_=>none
  |_,_,_,_=>none
 |.fieldAddr t x f=>match T.get t,ρ x with
  |some d,some e=>match d.kind with
   |.struct fs=>match fs[f]? with
    |some (off,size,_)=>bif Nat.ble 1 size then (match e with
      |.ptr r o=>fU (.ptr r (o+off))
      |.ox cs=>fU (.ox (cs.drop off))
      |.n7 j o=>fU (.n7 j (o+off))
      |_=>none) else none
    |none=>none
   |_=>none
  |_,_=>none
 |.field t x f=>match T.get t,ρ x with
  |some d,some (.pv (.agg cs))=>match d.kind with
   |.struct fs=>match fs[f]? with
    |some (off,size,agg)=>match A5 cs off size agg with
     |some p=>fU (.pv p)
     |none=>none
    |none=>none
   |_=>none
  |_,_=>none
 |.indexAddr t x i=>match T.get t,ρ x,ρ i with
  |some d,some e,some (.pv (.int _ n))=>match d.kind with
   |.slice el=>match T.get el with
    |some de=>match e,h with
     |.row r off len sz,.nat k=>bif Nat.beq sz de.size then some ⟨.ptr r (off+k*sz),none,[n=(k:Int),k<len]⟩ else none
     |.ji j len sz,.nat k=>bif Nat.beq sz de.size then some ⟨.n7 j (k*sz),none,[n=(k:Int),k<len]⟩ else none
     |.pv (.list xs),.row k row=>some ⟨.ox row,none,[n=(k:Int),xs[k]? = some row,row.length=de.size]⟩
     |_,_=>none
    |none=>none
   |.array len el=>match T.get el with
    |some de=>match e,h with
     |.ptr r off,.nat k=>some ⟨.ptr r (off+k*de.size),none,[n=(k:Int),k<len]⟩
     |_,_=>none
    |none=>none
   |_=>none
  |_,_,_=>none
 |.index t x i=>match T.get t,ρ x,ρ i,h with
  |some d,some (.pv (.agg cs)),some (.pv (.int _ n)),.row k row=>match d.kind with
   |.array len el=>match T.get el with
    |some de=>bif de.agg then some ⟨.pv (.agg row),none,[n=(k:Int),k<len,k*de.size+de.size≤cs.length,(cs.drop (k*de.size)).take de.size=row]⟩ else none
    |none=>none
   |_=>none
  |some d,some (.pv (.str s)),some (.pv (.int _ n)),.row k [.int .u8 m]=>match d.kind with
   |.str=>some ⟨.pv (.int .u8 m),none,[n=(k:Int),(s.data.toList[k]?).map (fun b=>(b.toNat:Int))=some m]⟩
   |_=>none
  |_,_,_,_=>none
 |.extract x i=>match ρ x with
  |some (.pv (.aF vs))=>match vs[i]? with
   |some p=>fU (.pv p)
   |none=>none
  |some (.oy r off len sz ps)=>match i with
   |0=>fU (.row r off len sz)
   |j+1=>match ps[j]? with
    |some p=>fU (.pv p)
    |none=>none
  |_=>none
 |.typeAssert x _ t true=>match T.get t,ρ x with
  |some d,some (.pv (.iface u p))=>match d.kind with
   |.int _=>bif Nat.beq u t then fU (.pv (.aF [p,.bool true])) else none
   |_=>none
  |_,_=>none
 |.call c=>match c.callee,c.args.toList,c.argTypes.toList with
  |.builtin .len,[x],[t]=>match T.get t,ρ x with
   |some d,some e=>match d.kind,lZ e with
    |.slice _,some n=>(match h with
     |.pv (.int .i64 m)=>some ⟨.pv (.int .i64 m),none,[(n:Int)=m]⟩
     |_=>fU (.pv (.int .i64 n)))
    |.str,_=>(match e,h with
     |.pv (.str s),.pv (.int .i64 m)=>some ⟨.pv (.int .i64 m),none,[(s.size:Int)=m]⟩
     |_,_=>none)
    |_,_=>none
   |_,_=>none
  |.builtin .max,[x,y],_=>match ρ x,ρ y,h with
   |some (.pv (.int k a)),some (.pv (.int k' b)),.pv (.int TO m)=>bif decide (k=k')&&decide (k=TO) then some ⟨.pv (.int k m),none,[(if b>a then b else a)=m]⟩ else none
   |_,_,_=>none
  |.builtin .min,[x,y],_=>match ρ x,ρ y,h with
   |some (.pv (.int k a)),some (.pv (.int k' b)),.pv (.int TO m)=>bif decide (k=k')&&decide (k=TO) then some ⟨.pv (.int k m),none,[(if b<a then b else a)=m]⟩ else none
   |_,_,_=>none
  |_,_,_=>none
 |.makeFunc fn first captured=>match fn,first.toList,captured.toList with
  |.func f,[],[x]=>match ρ x with
   |some (.ptr r 0)=>fU (.Av f r)
   |_=>none
  |.func f,[],[]=>fU (.pv (.fn f))
  |_,_,_=>none
 |_=>none
def QY(β:Nat→Option Nat)(d b:Nat):Nat→Option Nat:=fun r=>if r=d then some b else β r
def vF(β:Nat→Option Nat)(L I:Nat→Prop)(w:World)(dst:Option Nat)(res:oq)(v:Value)(w':World):Prop :=
 Ds w.heap.size w w'∧match res.new with
  |none=>RE β L (fun x=>I x∨fresh w w' x) w' res.val v
  |some cs=>∃d b,dst=some d∧fresh w w' b∧(¬L d →
    RB (QY β d b) (fun r=>L r∨r=d) (fun x=>I x∨(fresh w w' x∧x≠b)) w' d cs.rI ∧
    RE (QY β d b) (fun r=>L r∨r=d) (fun x=>I x∨(fresh w w' x∧x≠b)) w' res.val v)
theorem vF.same{β:Nat→Option Nat}{L I:Nat→Prop}{w:World}{dst:Option Nat}{e:EV}{ob:List Prop}{v:Value}(h:RE β L I w e v) :
  vF β L I w dst ⟨e,none,ob⟩ v w :=
 ⟨Ds.refl _ _,h.mono (fun _ _=>rfl) (fun _ h=>h) (fun _ h => .inl h) (fun _ _ _=>rfl) (fun _ _ _ _=>rfl)⟩
theorem RE.alloc{β:Nat→Option Nat}{L I:Nat→Prop}{w:World}{e:EV}{v:Value}{d:Nat}{o:Obj}(h:RE β L I w e v)(hβ:∀r b,L r→β r=some b→b<w.heap.size)(hI:∀b,I b→b<w.heap.size)(hd:¬L d) :
  RE (QY β d w.heap.size) (fun r=>L r∨r=d) (fun x=>I x∨(fresh w (w.alloc o) x∧x≠w.heap.size)) (w.alloc o) e v :=
 h.mono (fun r hr=>ag7 (fun uT:r=d=>hd (uT ▸ hr))) (fun _ h => .inl h) (fun _ h => .inl h)
  (fun b o' hb=>hZ (Below.heap_alloc w o b (hI b hb)) o') (fun r b hr hb=>rM (Below.heap_alloc w o b (hβ r b hr hb)))
theorem vF.new{β:Nat→Option Nat}{L I:Nat→Prop}{w:World}{d:Nat}{e:EV}{cs:SC}{ob:List Prop}{v:Value}{arr:Array Value}{el:TypeId}
  (hβ:∀r b,L r→β r=some b→b<w.heap.size) (hI:∀b,I b→b<w.heap.size)
  (hc:∀(j:Nat) e,cs.rI[j]? = some e→∃u,arr[j]? = some u∧u.oneCell'=true∧RE β L I w e u)
  (he:(e = .ptr d 0∧v = .pointer (some ⟨w.heap.size,0,none⟩))∨∃n sz,e = .row d 0 n sz∧v = .slice (some ⟨w.heap.size,0,none⟩) n n∧n*sz≤arr.size) :
  vF β L I w (some d) ⟨e,some cs,ob⟩ v (w.alloc (.cells arr el)):=by
 have qZ:(w.alloc (.cells arr el)).heap[w.heap.size]? = some (.cells arr el (0,0)):=heap_alloc_new w _;refine⟨(Ds.refl _ _).alloc (afY _) _,d,w.heap.size,rfl,⟨afY _,by simp⟩,fun hd=>⟨.inr ⟨w.heap.size,arr,el,by simp[QY],qZ,fun j e' hj => ?_⟩,?_⟩⟩
 ·obtain⟨u,h1,h2,h3⟩:=hc j e' hj;exact⟨u,h1,h2,h3.alloc hβ hI hd⟩
 ·rcases he with ⟨rfl,rfl⟩|⟨n,sz,rfl,rfl,hn⟩
  ·exact⟨.inr rfl,by simp[QY]⟩
  ·refine⟨.inr rfl,.inr ⟨w.heap.size,n,by simp[QY],rfl,afY _,el,arr.size,?_,by simpa using hn⟩⟩;unfold World.shape?;rw[qZ]
theorem yd{sz:Nat} : ∀{xs:List (List PV)} {i j:Nat} {row:List PV} {x:PV},(∀row∈xs,row.length=sz)→xs[i]? = some row→row[j]? = some x→xs.flatten[i*sz+j]? = some x
 |[],i,j,row,x,_,h,_=>by simp at h
 |r::xs,i,j,row,x,hl,h,hx=>by
  have hr:r.length=sz:=hl r (by simp);cases i with
  |zero =>simp at h;subst h;have hj:=(afQ.1 hx).1;rw[ahm,agZ,ag9 (by omega)];simpa using hx
  |succ i =>rw[ahm,agZ,ag7 (by rw[hr,ahS];omega)];rw[show (i+1)*sz+j-r.length=i*sz+j from by rw[hr,ahS];omega];exact yd (fun r hr=>hl r (by simp[hr])) (by simpa using h) hx
theorem vF.QZ{β:Nat→Option Nat}{L I:Nat→Prop}{w:World}{dst:Option Nat}{cs:List PV}{xs:List (List PV)}{ob:List Prop}{n sz:Nat}{arr:Array Value}{el:TypeId}
  (hI:∀b,I b→b<w.heap.size)
  (hc:∀(j:Nat) c,cs[j]? = some c→∃u,arr[j]? = some u∧c.one=true∧Rd I w c u)
  (h1:cs=xs.flatten) (h2:n=xs.length) (h3:∀row∈xs,row.length=sz) :
  vF β L I w dst ⟨.pv (.list xs),none,ob⟩ (.slice (some ⟨w.heap.size,0,none⟩) n n) (w.alloc (.cells arr el)):=by
 have qZ:(w.alloc (.cells arr el)).heap[w.heap.size]? = some (.cells arr el (0,0)):=heap_alloc_new w _;refine⟨(Ds.refl _ _).alloc (afY _) _,?_⟩;show Rd _ _ _ _;subst h1;subst h2;have key:∀(i j:Nat) row x,xs[i]? = some row→row[j]? = some x→∃u,arr[i*sz+j]? = some u∧x.one=true∧Rd I w x u:=fun i j row x hi hj=>hc _ x (yd h3 hi hj)
 refine .list xs w.heap.size 0 xs.length sz (fun i j=>arr.getD (i*sz+j) undef) (afY _) (.inr ⟨afY _,by simp⟩) (fun i row hi=>h3 row (ag4 hi)) (fun i j row x hi hj => ?_) (fun i j row x hi hj => ?_)
 ·obtain⟨u,g1,g2,g3⟩:=key i j row x hi hj;refine⟨g2,?_⟩;rw[agQ,cell_of_row _ _ _ arr el (0,0) qZ,g1];simp[Array.getD_eq_getD_getElem?,g1]
 ·obtain⟨u,g1,g2,g3⟩:=key i j row x hi hj;simp only[Array.getD_eq_getD_getElem?,g1,Option.getD_some];exact g3.mono (fun _ h => .inl h) (fun b o hb=>hZ (Below.heap_alloc w _ b (hI b hb)) o)
end Go.Proofs.YtcpnocgollpbhaaGreatDoor.Sym
