/- Lemmas for the statements of this seat. -/
import Derived.Test.YtneklnlpgfeplaaGreatW2
namespace Go.Proofs.YtneklnlpgfeplaaGreat.Sym
open Go Go.RowKit
inductive SC where
 |lit (cs:List EV)
 |pure (ps:List PV)
 |heap (xs:List (Option (List PV)))
 |Ew (hs:List (Nat×Nat)) (sz:Nat)
 |Ex (hs:List (ByteArray×Nat×Nat)) (sz:Nat)
def JQ(H:List (ByteArray×Nat×Nat))(sz:Nat):List EV:=H.flatMap fun x=>[.pv (.str x.1),.ig x.2.1 x.2.2 sz]
def SC.oe:SC→List EV
 |.lit cs=>cs
 |.pure ps=>ps.map EV.pv
 |.heap _=>[]
 |.Ew hs sz=>hs.map fun x => .ig x.1 x.2 sz
 |.Ex hs sz=>JQ hs sz
abbrev aY:=List (Nat×SC)
inductive Hint where
 |none
 |pv (p:PV)
 |ev (e:EV)
 |nat (n:Nat)
 |dec (b:Bool)
 |row (k:Nat) (cells:List PV)
 |MA (ps:List PV)
 |fM (l h:Nat) (xs:List (List PV))
 |cells (cs:SC)
 |bm (σ:List (Nat×Nat)) (nw:Option (Nat×Nat)) (r:EV) (sout:aY)
 |df (σ ν:List (Nat×Nat)) (r:EV) (sout:aY)
 |app (len:Nat) (out:List PV)
 |nil
 |skip
 |Zr (ps out:List PV)
 |Zs (ps out:List PV) (xs:List (Option (List PV)))
 |U8
 |Zt (n:Nat) (hs:List (Nat×Nat))
 |Yc (g:Nat) (r:PV)
 |Yd (news:List (Nat×Nat)) (fs:List FE) (sout:List (Nat×SC))
 |Ye (r:EV) (hs:List (Nat×Nat)) (sz:Nat) (xs:List (Option (List PV)))
 |U9
 |Zu (n:Nat) (out:SC)
 |Yf (news:List (Nat×Nat)) (fs:List FE) (sout:List (Nat×SC)) (xs:List (Option (List PV)))
structure nX where
 val:EV
 new:Option SC
 ob:List Prop
def HL:PV→PV
 |.aT => .list []
 |p=>p
def gO(h:Hint)(d:TD):List PV:=match h with
 |.nil=>d.zero
 |_=>d.zero.map HL
def dW:List Prop→Prop
 |[]=>True
 |[p]=>p
 |p::r=>p∧dW r
theorem dW.cons{p:Prop}{r:List Prop}(h:dW (p::r)):p∧dW r:=by
 cases r with
 |nil=>exact⟨h,True.intro⟩
 |cons q r=>exact h
theorem dW.app:∀{l m:List Prop},dW (l++m)→dW l∧dW m
 |[],m,h=>⟨True.intro,h⟩
 |[p],m,h=>⟨h.cons.1,h.cons.2⟩
 |p::q::r,m,h=>by obtain⟨h1,h2⟩:=dW.cons (r:=q::r++m) h;obtain⟨h3,h4⟩:=dW.app (l:=q::r) h2;exact⟨⟨h1,h3⟩,h4⟩
def aY.cD:aY→Nat→Option SC
 |[],_=>none
 |(r',c)::s,r=>bif Nat.beq r' r then some c else aY.cD s r
def aY.hp(s:aY):List (Option (List PV)):=match s.cD 999999 with
 |some (.heap xs)=>xs
 |_=>[]
def qh(xs:List (Option (List PV)))(j:Nat):Option SC:=match xs[j]? with
 |some (some ps)=>some (.pure ps)
 |_=>none
def aY.get(s:aY)(r:Nat):Option SC:=bif Nat.blt r 999999 then s.cD r else bif Nat.blt r 1000000 then none else qh s.hp (r-1000000)
theorem aY.jB{s:aY}{r:Nat}(h:r<999999):s.get r=s.cD r:=by unfold aY.get;rw[show Nat.blt r 999999=true from acN h];rfl
theorem aY.gu{s:aY} : s.get 999999=none:=rfl
theorem aY.kI{s:aY}{j:Nat} : s.get (hc j)=qh s.hp j:=by
 unfold aY.get hc;rw[show Nat.blt (1000000+j) 999999=false from acX.2 (fun h=>by have:=abM h;omega),
  show Nat.blt (1000000+j) 1000000=false from acX.2 (fun h=>by have:=abM h;omega)]
 show qh s.hp (1000000+j-1000000)=_;rw[aek]
theorem Dn(x:Nat):x<999999∨x=999999∨∃j,x=hc j:=by
 unfold hc;by_cases h:x<999999
 ·exact .inl h
 ·by_cases h2:x=999999
  ·exact .inr (.inl h2)
  ·exact .inr (.inr ⟨x-1000000,by omega⟩)
def fz(e:EV):Option nX:=some ⟨e,none,[]⟩
def nY:List EV→Option (List PV)
 |[]=>some []
 |.pv p::r=>match nY r with
  |some ps=>some (p::ps)
  |none=>none
 |_::_=>none
def FE.ev:FE→EV
 |.pv p => .pv p
 |.row r off len sz => .row r off len sz
 |.ig j len sz => .ig j len sz
def kr:List EV→Option (List FE)
 |[]=>some []
 |.pv p::r=>match kr r with
  |some fs=>some (.pv p::fs)
  |none=>none
 |.row x off len sz::r=>match kr r with
  |some fs=>some (.row x off len sz::fs)
  |none=>none
 |.ig j len sz::r=>match kr r with
  |some fs=>some (.ig j len sz::fs)
  |none=>none
 |_::_=>none
def mW:EV→Option (List EV)
 |.lz fs=>some (fs.map FE.ev)
 |.pv p=>bif p.sJ then none else some (p.cells.map EV.pv)
 |.dead=>none
 |.jA .. => none
 |.iu .. => none
 |.mD .. => none
 |e=>some [e]
def q8(ρ:Operand→Option EV):List Operand→Option (List Nat)
 |[]=>some []
 |x::r=>match ρ x,q8 ρ r with
  |some (.ptr q 0),some qs=>some (q::qs)
  |_,_=>none
def MF(T:ja)(t:TypeId):PV→Bool
 |.bool _=>match T.get t with
  |some d=>match d.kind with
   |.bool=>true
   |_=>false
  |none=>false
 |.ar=>match T.get t with
  |some d=>match d.kind with
   |.iface=>true
   |_=>false
  |none=>false
 |.iface _ _=>match T.get t with
  |some d=>match d.kind with
   |.iface=>true
   |_=>false
  |none=>false
 |.agg cs=>match T.get t with
  |some d => !d.Ml.isEmpty&&kC d.Ml cs
  |none=>false
 |_=>true
def pG(ρ:Operand→Option EV):List (Nat×Operand)→Option (List (Nat×PV))
 |[]=>some []
 |(i,x)::r=>match ρ x,pG ρ r with
  |some (.pv p),some ps=>some ((i,p)::ps)
  |_,_=>none
def ra(ρ:Operand→Option EV):List (Nat×Operand)→Option (List (Nat×List FE))
 |[]=>some []
 |(i,x)::r=>match (ρ x).bind fun e=>(mW e).bind kr,ra ρ r with
  |some fs,some ps=>some ((i,fs)::ps)
  |_,_=>none
def Gd(h:Hint)(f:Option (List PV)):Option (List PV×List Prop):=match h with
 |.app _ out=>some (out,[f=some out])
 |_=>match f with
  |some cs=>some (cs,[])
  |none=>none
theorem Ey{h:Hint}{f:Option (List PV)}{cs:List PV}{ob:List Prop}(e:Gd h f=some (cs,ob)):(dW ob→f=some cs)∧∀l u xs,h = .fM l u xs→ob=[]:=by
 unfold Gd at e;split at e
 ·injection e with e;injection e with e1 e2
  subst e1;subst e2;exact⟨fun h=>h,fun l u xs h=>by cases h⟩
 ·split at e
  ·injection e with e;injection e with e1 e2
   subst e1;subst e2;exact⟨fun _=>rfl,fun _ _ _ _=>rfl⟩
  ·cases e
def Dp(d:TD)(cells:List EV)(off:Nat)(h:Hint):Option nX :=
 bif d.agg then
  match h with
  |.MA ps=>some ⟨.pv (.agg ps),none,[(cells.drop off).take d.size=ps.map EV.pv,ps.length=d.size]⟩
  |.ev (.lz fs)=>some ⟨.lz fs,none,[(cells.drop off).take d.size=fs.map FE.ev,fs.length=d.size]⟩
  |_=>match nY ((cells.drop off).take d.size) with
   |some ps=>bif Nat.beq ps.length d.size then fz (.pv (.agg ps)) else none
   |none=>match kr ((cells.drop off).take d.size) with
    |some fs=>bif Nat.beq fs.length d.size then fz (.lz fs) else none
    |none=>none
 else match h with
  |.ev e=>some ⟨e,none,[cells[off]? = some e]⟩
  |_=>match cells[off]? with
   |some e=>fz e
   |none=>none
def vZ(size:Nat)(e:EV)(l h:Nat)(xs:List (List PV))(ob:List Prop):Option nX :=
 match e with
 |.pv (.list ys)=>some ⟨.pv (.list xs),none,ob++[l≤h,h≤ys.length,(ys.take h).drop l=xs,∀row∈xs,row.length=size]⟩
 |.row r off len sz=>match xs with
  |[]=>some ⟨.row r (off+l*sz) (h-l) sz,none,ob++[l=0∨l<h,l≤h,h≤len]⟩
  |_::_=>some ⟨.pv (.list []),none,ob++[l=h,h≤len]⟩
 |_=>none
def JR(ρ:Operand→Option EV)(o:Option Operand)(d:EV):Option EV:=match o with
 |some y=>ρ y
 |none=>some d
def jT:EV→Option Nat
 |.pv (.list xs)=>some xs.length
 |.row _ _ len _=>some len
 |.ig _ len _=>some len
 |_=>none
def cI(T:ja)(aP:aY)(dst:Option Nat)(op:Op)(ρ:Operand→Option EV)(h:Hint):Option nX :=
 match op with
 |.move x=>match ρ x with
  |some e=>fz e
  |none=>none
 |.assign x=>match h,x with
  |.nil,.const (.slice none 0 0)=>fz (.pv .aT)
  |_,_=>match ρ x with
   |some e=>fz e
   |none=>none
 |.pick c a b=>match ρ c,h with
  |some (.pv (.bool t)),.dec d=>match ρ (bif d then a else b) with
   |some e=>some ⟨e,none,[t=d]⟩
   |none=>none
  |some (.pv (.bool t)),.none=>match ρ (bif t then a else b) with
   |some e=>some ⟨e,none,[]⟩
   |none=>none
  |_,_=>none
 |.alloc t=>match T.get t,dst with
  |some d,some r=>some ⟨.ptr r 0,some (.lit ((gO h d).map EV.pv)),[]⟩
  |_,_=>none
 |.box _ x=>match ρ x,dst with
  |some e,some r=>match mW e with
   |some cs=>some ⟨.ptr r 0,some (.lit cs),[]⟩
   |none=>none
  |_,_=>none
 |.build t parts=>match T.get t,pG ρ parts.toList with
  |some d,some ps=>match d.kind with
   |.struct fs=>match oF (eY fs) (gO h d) ps with
    |some cs=>fz (.pv (.agg cs))
    |none=>none
   |.array _ el=>match T.get el with
    |some de=>match oF (fun i=>some (i*de.size,de.size)) (gO h d) ps with
     |some cs=>fz (.pv (.agg cs))
     |none=>none
    |none=>none
   |_=>none
  |some d,none=>match d.kind,ra ρ parts.toList with
   |.struct fs,some ps=>match zN (eY fs) ((gO h d).map FE.pv) ps with
    |some cs=>fz (.lz cs)
    |none=>none
   |_,_=>none
  |_,_=>none
 |.buildSlice t n parts=>match T.get t,pG ρ parts.toList,dst with
  |some d,some ps,some r=>match d.kind with
   |.slice e=>match T.get e with
    |some de=>bif Nat.ble (n*de.size) 4096&&Nat.ble 1 de.size then
      match Gd h (oF (fun i=>some (i*de.size,de.size)) ((List.replicate n (gO h de)).flatten) ps) with
      |some (cs,ob)=>match h with
       |.fM _ _ xs=>some ⟨.pv (.list xs),none,[cs=xs.flatten,n=xs.length,∀row∈xs,row.length=de.size]⟩
       |_=>some ⟨.row r 0 n de.size,some (.pure cs),ob⟩
      |none=>none
     else none
    |none=>none
   |_=>none
  |_,_,_=>none
 |.load t x=>match T.get t,ρ x with
  |some d,some (.ptr r off)=>match aP.get r with
   |some sc=>Dp d sc.oe off h
   |none=>none
  |some d,some (.mC cells)=>bif d.agg then (bif Nat.ble d.size cells.length then fz (.pv (.agg (cells.take d.size))) else none) else match cells with
   |p::_=>fz (.pv p)
   |[]=>none
  |_,_=>none
 |.nilCheck x=>match ρ x with
  |some (.ptr r off)=>fz (.ptr r off)
  |some (.mC c)=>fz (.mC c)
  |some (.mE j off)=>fz (.mE j off)
  |_=>none
 |.binOp op t x y _=>match ρ x,ρ y with
  |some (.pv p),some (.pv q)=>bif MF T t p then (match h with
    |.pv r=>some ⟨.pv r,none,[cu (JM x||JM y) op p q=some r]⟩
    |_=>match cu (JM x||JM y) op p q with
     |some r=>fz (.pv r)
     |none=>none) else none
  |_,_=>none
 |.unOp op _ x=>match ρ x with
  |some (.pv p)=>match h with
   |.pv r=>some ⟨.pv r,none,[Co op p=some r]⟩
   |_=>match Co op p with
    |some r=>fz (.pv r)
    |none=>none
  |_=>none
 |.convert s t x=>match T.get s,T.get t,ρ x with
  |some _,some d,some (.pv (.int _ n))=>match d.kind with
   |.int k=>match h with
    |.pv (.int k' m)=>bif decide (k=k') then some ⟨.pv (.int k m),none,[k.wrap n=m]⟩ else none
    |_=>fz (.pv (.int k (k.wrap n)))
   |_=>none
  |_,_,_=>none
 |.makeInterface t x=>match T.get t,ρ x with
  |some d,some (.pv p)=>match d.kind with
   |.iface=>none
   |.other=>none
   |_=>fz (.pv (.iface t p))
  |_,_=>none
 |.makeSlice t l c=>match T.get t,ρ l,ρ c,dst,h with
  |some d,some (.pv (.int .i64 n)),some (.pv (.int .i64 n')),some r,.app m out=>match d.kind with
   |.slice e=>match T.get e with
    |some de=>bif Nat.ble 1 de.size then some ⟨.row r 0 m de.size,some (.pure out),[n=(m:Int),n'=(m:Int),de.bytes*m≤140737488355328,m<9223372036854775808,(List.replicate m (gO .none de)).flatten=out]⟩ else none
    |none=>none
   |_=>none
  |_,_,_,_,_=>none
 |.slice t x lo hi mx=>match T.get t,ρ x,mx,h with
  |some d,some e,none,.fM l u xs=>match d.kind with
   |.slice el=>match T.get el,e with
    |some de,.row r off len sz=>bif Nat.beq de.size sz then
      (match JR ρ lo (.pv (.int .i64 0)),JR ρ hi (.pv (.int .i64 len)) with
      |some (.pv (.int _ a)),some (.pv (.int _ b))=>vZ sz (.row r off len sz) l u xs [a=(l:Int),b=(u:Int)]
      |_,_=>none) else none
    |some de,.pv (.list ys) =>
      (match JR ρ lo (.pv (.int .i64 0)),JR ρ hi (.pv (.int .i64 ys.length)) with
      |some (.pv (.int _ a)),some (.pv (.int _ b))=>vZ de.size (.pv (.list ys)) l u xs [a=(l:Int),b=(u:Int)]
      |_,_=>none)
    |_,_=>none
   |.str=>match e with
    |.pv (.str bs)=>(match JR ρ lo (.pv (.int .i64 0)),JR ρ hi (.pv (.int .i64 bs.size)) with
      |some (.pv (.int _ a)),some (.pv (.int _ b))=>some ⟨.pv (.str (bs.extract l u)),none,[a=(l:Int),b=(u:Int),l≤u,u≤bs.size]⟩
      |_,_=>none)
    |_=>none
   |_=>none
  |_,_,_,_=>none
 |.fieldAddr t x f=>match T.get t,ρ x with
  |some d,some e=>match d.kind with
   |.struct fs=>match fs[f]? with
    |some (off,size,_)=>bif Nat.ble 1 size then (match e with
      |.ptr r o=>fz (.ptr r (o+off))
      |.mC cs=>fz (.mC (cs.drop off))
      |.mE j o=>fz (.mE j (o+off))
      |_=>none) else none
    |none=>none
   |_=>none
  |_,_=>none
 |.field t x f=>match T.get t,ρ x with
  |some d,some (.pv (.agg cs))=>match d.kind with
   |.struct fs=>match fs[f]? with
    |some (off,size,agg)=>match xj cs off size agg with
     |some p=>fz (.pv p)
     |none=>none
    |none=>none
   |_=>none
  |_,_=>none
 |.indexAddr t x i=>match T.get t,ρ x,ρ i with
  |some d,some e,some (.pv (.int _ n))=>match d.kind with
   |.slice el=>match T.get el with
    |some de=>match e,h with
     |.row r off len sz,.nat k=>bif Nat.beq sz de.size then some ⟨.ptr r (off+k*sz),none,[n=(k:Int),k<len]⟩ else none
     |.ig j len sz,.nat k=>bif Nat.beq sz de.size then some ⟨.mE j (k*sz),none,[n=(k:Int),k<len]⟩ else none
     |.pv (.list xs),.row k row=>some ⟨.mC row,none,[n=(k:Int),xs[k]? = some row,row.length=de.size]⟩
     |_,_=>none
    |none=>none
   |.array len el=>match T.get el with
    |some de=>match e,h with
     |.ptr r off,.nat k=>some ⟨.ptr r (off+k*de.size),none,[n=(k:Int),k<len]⟩
     |_,_=>none
    |none=>none
   |_=>none
  |_,_,_=>none
 |.index t x i=>match T.get t,ρ x,ρ i,h with
  |some d,some (.pv (.agg cs)),some (.pv (.int _ n)),.row k row=>match d.kind with
   |.array len el=>match T.get el with
    |some de=>bif de.agg then some ⟨.pv (.agg row),none,[n=(k:Int),k<len,k*de.size+de.size≤cs.length,(cs.drop (k*de.size)).take de.size=row]⟩ else (match row with
     |[p]=>some ⟨.pv p,none,[n=(k:Int),k<len,cs[k*de.size]? = some p]⟩
     |_=>none)
    |none=>none
   |_=>none
  |some d,some (.pv (.str s)),some (.pv (.int _ n)),.row k [.int .u8 m]=>match d.kind with
   |.str=>some ⟨.pv (.int .u8 m),none,[n=(k:Int),(s.data.toList[k]?).map (fun b=>(b.toNat:Int))=some m]⟩
   |_=>none
  |_,_,_,_=>none
 |.extract x i=>match ρ x with
  |some (.pv (.bg vs))=>match vs[i]? with
   |some p=>fz (.pv p)
   |none=>none
  |some (.iu r off ps)=>match i with
   |0=>fz (.ptr r off)
   |j+1=>match ps[j]? with
    |some p=>fz (.pv p)
    |none=>none
  |some (.jA r off len sz ps)=>match i with
   |0=>fz (.row r off len sz)
   |j+1=>match ps[j]? with
    |some p=>fz (.pv p)
    |none=>none
  |_=>none
 |.typeAssert x _ t true=>match T.get t,ρ x with
  |some d,some (.pv (.iface u p))=>match d.kind with
   |.int _=>bif Nat.beq u t then fz (.pv (.bg [p,.bool true])) else none
   |_=>none
  |_,_=>none
 |.call c=>match c.callee,c.args.toList,c.argTypes.toList with
  |.builtin .len,[x],[t]=>match T.get t,ρ x with
   |some d,some e=>match d.kind,jT e with
    |.slice _,some n=>(match h with
     |.pv (.int .i64 m)=>some ⟨.pv (.int .i64 m),none,[(n:Int)=m]⟩
     |_=>fz (.pv (.int .i64 n)))
    |.str,_=>(match e,h with
     |.pv (.str s),.pv (.int .i64 m)=>some ⟨.pv (.int .i64 m),none,[(s.size:Int)=m]⟩
     |_,_=>none)
    |_,_=>none
   |_,_=>none
  |.builtin .max,[x,y],_=>match ρ x,ρ y,h with
   |some (.pv (.int k a)),some (.pv (.int k' b)),.pv (.int O6 m)=>bif decide (k=k')&&decide (k=O6) then some ⟨.pv (.int k m),none,[(if b>a then b else a)=m]⟩ else none
   |_,_,_=>none
  |.builtin .min,[x,y],_=>match ρ x,ρ y,h with
   |some (.pv (.int k a)),some (.pv (.int k' b)),.pv (.int O6 m)=>bif decide (k=k')&&decide (k=O6) then some ⟨.pv (.int k m),none,[(if b<a then b else a)=m]⟩ else none
   |_,_,_=>none
  |_,_,_=>none
 |.makeFunc fn first captured=>match fn,first.toList,captured.toList with
  |.func f,[],[x]=>match ρ x with
   |some (.ptr r 0)=>fz (.mD f r)
   |_=>none
  |.func f,[],[]=>fz (.pv (.fn f))
  |.func f,bs,cs=>match q8 ρ bs,q8 ρ cs with
   |some qs,some rs=>fz (.cM f qs rs)
   |_,_=>none
  |_,_,_=>none
 |_=>none
def MG(β:Nat→Option Nat)(d b:Nat):Nat→Option Nat:=fun r=>if r=d then some b else β r
def vf(β:Nat→Option Nat)(L I:Nat→Prop)(w:World)(dst:Option Nat)(res:nX)(v:Value)(w':World):Prop :=
 yK w.heap.size w w'∧match res.new with
  |none=>RE β L (fun x=>I x∨fresh w w' x) w' res.val v
  |some cs=>∃d b,dst=some d∧fresh w w' b∧(¬L d →
    RB (MG β d b) (fun r=>L r∨r=d) (fun x=>I x∨(fresh w w' x∧x≠b)) w' d cs.oe ∧
    RE (MG β d b) (fun r=>L r∨r=d) (fun x=>I x∨(fresh w w' x∧x≠b)) w' res.val v)
theorem vf.same{β:Nat→Option Nat}{L I:Nat→Prop}{w:World}{dst:Option Nat}{e:EV}{ob:List Prop}{v:Value}(h:RE β L I w e v) :
  vf β L I w dst ⟨e,none,ob⟩ v w :=
 ⟨yK.refl _ _,h.mono (fun _ _=>rfl) (fun _ h=>h) (fun _ h => .inl h) (fun _ _ _=>rfl) (fun _ _ _ _=>rfl)⟩
theorem RE.alloc{β:Nat→Option Nat}{L I:Nat→Prop}{w:World}{e:EV}{v:Value}{d:Nat}{o:Obj}(h:RE β L I w e v)(hβ:∀r b,L r→β r=some b→b<w.heap.size)(hI:∀b,I b→b<w.heap.size)(hd:¬L d) :
  RE (MG β d w.heap.size) (fun r=>L r∨r=d) (fun x=>I x∨(fresh w (w.alloc o) x∧x≠w.heap.size)) (w.alloc o) e v :=
 h.mono (fun r hr=>ac3 (fun uw:r=d=>hd (uw ▸ hr))) (fun _ h => .inl h) (fun _ h => .inl h)
  (fun b o' hb=>fh (Below.heap_alloc w o b (hI b hb)) o') (fun r b hr hb=>kH (Below.heap_alloc w o b (hβ r b hr hb)))
theorem vf.new{β:Nat→Option Nat}{L I:Nat→Prop}{w:World}{d:Nat}{e:EV}{cs:SC}{ob:List Prop}{v:Value}{arr:Array Value}{el:TypeId}
  (hβ:∀r b,L r→β r=some b→b<w.heap.size) (hI:∀b,I b→b<w.heap.size)
  (hc:∀(j:Nat) e,cs.oe[j]? = some e→∃u,arr[j]? = some u∧u.oneCell'=true∧RE β L I w e u)
  (he:(e = .ptr d 0∧v = .pointer (some ⟨w.heap.size,0,none⟩))∨∃n sz,e = .row d 0 n sz∧v = .slice (some ⟨w.heap.size,0,none⟩) n n∧n*sz≤arr.size) :
  vf β L I w (some d) ⟨e,some cs,ob⟩ v (w.alloc (.cells arr el)):=by
 have qx:(w.alloc (.cells arr el)).heap[w.heap.size]? = some (.cells arr el (0,0)):=heap_alloc_new w _;refine⟨(yK.refl _ _).alloc (abW _) _,d,w.heap.size,rfl,⟨abW _,by simp⟩,fun hd=>⟨.inr ⟨w.heap.size,arr,el,by simp[MG],qx,fun j e' hj => ?_⟩,?_⟩⟩
 ·obtain⟨u,h1,h2,h3⟩:=hc j e' hj;exact⟨u,h1,h2,h3.alloc hβ hI hd⟩
 ·rcases he with ⟨rfl,rfl⟩|⟨n,sz,rfl,rfl,hn⟩
  ·exact⟨.inr rfl,by simp[MG]⟩
  ·refine⟨.inr rfl,.inr ⟨w.heap.size,n,by simp[MG],rfl,abW _,el,arr.size,?_,by simpa using hn⟩⟩;unfold World.shape?;rw[qx]
theorem tY{sz:Nat} : ∀{xs:List (List PV)} {i j:Nat} {row:List PV} {x:PV},(∀row∈xs,row.length=sz)→xs[i]? = some row→row[j]? = some x→xs.flatten[i*sz+j]? = some x
 |[],i,j,row,x,_,h,_=>by simp at h
 |r::xs,i,j,row,x,hl,h,hx=>by
  have hr:r.length=sz:=hl r (by simp);cases i with
  |zero =>simp at h;subst h;have hj:=(abL.1 hx).1;rw[acM,acC,ac7 (by omega)];simpa using hx
  |succ i =>rw[acM,acC,ac3 (by rw[hr,adI];omega)];rw[show (i+1)*sz+j-r.length=i*sz+j from by rw[hr,adI];omega];exact tY (fun r hr=>hl r (by simp[hr])) (by simpa using h) hx
theorem vf.MH{β:Nat→Option Nat}{L I:Nat→Prop}{w:World}{dst:Option Nat}{cs:List PV}{xs:List (List PV)}{ob:List Prop}{n sz:Nat}{arr:Array Value}{el:TypeId}
  (hI:∀b,I b→b<w.heap.size)
  (hc:∀(j:Nat) c,cs[j]? = some c→∃u,arr[j]? = some u∧c.one=true∧Rd I w c u)
  (h1:cs=xs.flatten) (h2:n=xs.length) (h3:∀row∈xs,row.length=sz) :
  vf β L I w dst ⟨.pv (.list xs),none,ob⟩ (.slice (some ⟨w.heap.size,0,none⟩) n n) (w.alloc (.cells arr el)):=by
 have qx:(w.alloc (.cells arr el)).heap[w.heap.size]? = some (.cells arr el (0,0)):=heap_alloc_new w _;refine⟨(yK.refl _ _).alloc (abW _) _,?_⟩;show Rd _ _ _ _;subst h1;subst h2;have key:∀(i j:Nat) row x,xs[i]? = some row→row[j]? = some x→∃u,arr[i*sz+j]? = some u∧x.one=true∧Rd I w x u:=fun i j row x hi hj=>hc _ x (tY h3 hi hj)
 refine .list xs w.heap.size 0 xs.length sz (fun i j=>arr.getD (i*sz+j) undef) (abW _) (.inr ⟨abW _,by simp⟩) (fun i row hi=>h3 row (ac5 hi)) (fun i j row x hi hj => ?_) (fun i j row x hi hj => ?_)
 ·obtain⟨u,g1,g2,g3⟩:=key i j row x hi hj;refine⟨g2,?_⟩;rw[acw,cell_of_row _ _ _ arr el (0,0) qx,g1];simp[Array.getD_eq_getD_getElem?,g1]
 ·obtain⟨u,g1,g2,g3⟩:=key i j row x hi hj;simp only[Array.getD_eq_getD_getElem?,g1,Option.getD_some];exact g3.mono (fun _ h => .inl h) (fun b o hb=>fh (Below.heap_alloc w _ b (hI b hb)) o)
end Go.Proofs.YtneklnlpgfeplaaGreat.Sym
