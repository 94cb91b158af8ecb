/- Lemmas for the statements of this seat. -/
import Derived.Test.YtneklnlpgfeplaaGreatAG
import Derived.Below
import Derived.Orders
import Derived.Laws.CopyRow
import Derived.Laws.Rows
import Derived.Laws.Build
import Derived.Laws.BitsLemmas
import Derived.KernelRfl
namespace Go.Proofs.YtneklnlpgfeplaaGreat.Sym
open Go Go.RowKit
inductive PV where
 |bool (b:Bool)
 |int (k:IntKind) (n:Int)
 |str (s:ByteArray)
 |ar
 |aT
 |iface (t:TypeId) (v:PV)
 |fn (f:FuncId)
 |agg (cs:List PV)
 |bg (vs:List PV)
 |list (xs:List (List PV))
 |bD
 |uv
def PV.one:PV→Bool
 |.agg _=>false
 |.bg _=>false
 |_=>true
def PV.cells:PV→List PV
 |.agg cs=>cs
 |v=>[v]
inductive Rd (I:Nat→Prop) (w:World):PV→Value→Prop
 |bool (b:Bool):Rd I w (.bool b) (.bool b)
 |int (k:IntKind) (n:Int):Rd I w (.int k n) (.int k n)
 |str (s:ByteArray):Rd I w (.str s) (.string s)
 |ar:Rd I w .ar .nilIface
 |aT:Rd I w .aT (.slice none 0 0)
 |iface (t:TypeId) (p:PV) (v:Value) (h:Rd I w p v):Rd I w (.iface t p) (.iface t v)
 |fn (f:FuncId):Rd I w (.fn f) (.func (.func f) #[] #[])
 |bD:Rd I w .bD .nilFunc
 |uv:Rd I w .uv (.pointer none)
 |agg (cs:List PV) (us:Array Value) (hl:cs.length=us.size) (ho:∀(j:Nat) c,cs[j]? = some c→c.one=true)
   (h:∀(j:Nat) c u,cs[j]? = some c→us[j]? = some u→Rd I w c u):Rd I w (.agg cs) (.agg us)
 |bg (cs:List PV) (us:Array Value) (hl:cs.length=us.size)
   (h:∀(j:Nat) c u,cs[j]? = some c→us[j]? = some u→Rd I w c u):Rd I w (.bg cs) (.tuple us)
 |nil (a:Option Addr) (c:Nat):Rd I w (.list []) (.slice a 0 c)
 |list (xs:List (List PV)) (b o c s:Nat) (f:Nat→Nat→Value) (hc:xs.length≤c) (hb:I b)
   (hs:∀(i:Nat) row,xs[i]? = some row→row.length=s)
   (ho:∀(i j:Nat) row x,xs[i]? = some row→row[j]? = some x→x.one=true∧w.cell? ⟨b,o+(i*s+j),none⟩=some (f i j))
   (h:∀(i j:Nat) row x,xs[i]? = some row→row[j]? = some x→Rd I w x (f i j)):Rd I w (.list xs) (.slice (some ⟨b,o,none⟩) xs.length c)
theorem Rd.mono{I I':Nat→Prop}{w w':World}{p:PV}{v:Value}(h:Rd I w p v)(hI:∀b,I b→I' b)
  (hw:∀b o,I b→w'.cell? ⟨b,o,none⟩=w.cell? ⟨b,o,none⟩):Rd I' w' p v:=by
 induction h with
 |bool b=>exact .bool b
 |int k n=>exact .int k n
 |str s=>exact .str s
 |ar=>exact .ar
 |aT=>exact .aT
 |iface t p v _ ih=>exact .iface t p v ih
 |fn f=>exact .fn f
 |bD=>exact .bD
 |uv=>exact .uv
 |agg cs us hl ho _ ih=>exact .agg cs us hl ho ih
 |bg cs us hl _ ih=>exact .bg cs us hl ih
 |nil a c=>exact .nil a c
 |list xs b o c s f hc hb hs ho _ ih =>exact .list xs b o c s f hc (hI b hb) hs (fun i j row x h1 h2=>⟨(ho i j row x h1 h2).1,(hw _ _ hb).trans (ho i j row x h1 h2).2⟩) ih
theorem Rd.jt{I:Nat→Prop}{w:World}{p:PV}{v:Value}(h:Rd I w p v)(ho:p.one=true):v.oneCell'=true:=by cases h<;>first|rfl|(simp [PV.one] at ho)
inductive FE where
 |pv (p:PV)
 |row (r off len sz:Nat)
 |ig (j len sz:Nat)
inductive EV where
 |pv (p:PV)
 |ptr (r off:Nat)
 |row (r off len sz:Nat)
 |mC (cells:List PV)
 |dead
 |jA (r off len sz:Nat) (ps:List PV)
 |mD (f:FuncId) (r:Nat)
 |ig (j len sz:Nat)
 |mE (j off:Nat)
 |lz (fs:List FE)
 |iu (r off:Nat) (ps:List PV)
 |cM (f:FuncId) (bs rs:List Nat)
def yJ(b:Nat):Value := .pointer (some ⟨b,0,none⟩)
def hc(j:Nat):Nat:=1000000+j
def Mk(β:Nat→Option Nat)(L:Nat→Prop)(w:World)(r off len sz:Nat)(v:Value):Prop:=L r∧((β r=none∧len=0∧v = .slice none 0 0)∨∃b c,β r=some b∧v = .slice (some ⟨b,off,none⟩) len c∧len≤c∧∃el n,w.shape? b=some (el,n)∧off+c*sz≤n)
def Oa(β:Nat→Option Nat)(L I:Nat→Prop)(w:World):FE→Value→Prop
 |.pv p,v=>p.one=true∧Rd I w p v
 |.row r off len sz,v=>Mk β L w r off len sz v
 |.ig j len sz,v=>Mk β L w (hc j) 0 len sz v
def RE(β:Nat→Option Nat)(L I:Nat→Prop)(w:World):EV→Value→Prop
 |.pv p,v=>Rd I w p v
 |.ptr r off,v=>L r∧∃b,β r=some b∧v = .pointer (some ⟨b,off,none⟩)
 |.row r off len sz,v=>L r∧((β r=none∧len=0∧v = .slice none 0 0)∨∃b c,β r=some b∧v = .slice (some ⟨b,off,none⟩) len c∧len≤c∧∃el n,w.shape? b=some (el,n)∧off+c*sz≤n)
 |.mC cells,v=>∃b o,v = .pointer (some ⟨b,o,none⟩)∧I b∧∀(j:Nat) x,cells[j]? = some x→x.one=true∧∃u,w.cell? ⟨b,o+j,none⟩=some u∧Rd I w x u
 |.dead,_=>True
 |.mD f r,v=>L r∧∃b,β r=some b∧v = .func (.func f) #[] #[.pointer (some ⟨b,0,none⟩)]
 |.ig j len sz,v=>Mk β L w (hc j) 0 len sz v
 |.mE j off,v=>L (hc j)∧∃b,β (hc j)=some b∧v = .pointer (some ⟨b,off,none⟩)
 |.jA r off len sz ps,v=>∃us:Array Value,v = .tuple us∧us.size=ps.length+1∧(∃u,us[0]? = some u∧Mk β L w r off len sz u)∧∀(j:Nat) p u,ps[j]? = some p→us[j+1]? = some u→Rd I w p u
 |.iu r off ps,v=>∃us:Array Value,v = .tuple us∧us.size=ps.length+1∧(∃u,us[0]? = some u∧L r∧∃b,β r=some b∧u = .pointer (some ⟨b,off,none⟩))∧∀(j:Nat) p u,ps[j]? = some p→us[j+1]? = some u→Rd I w p u
 |.cM f bs rs,v=>(∀r∈bs++rs,L r)∧∃ab ac:List Nat,bs.map β=ab.map some∧rs.map β=ac.map some∧v = .func (.func f) (ab.map yJ).toArray (ac.map yJ).toArray
 |.lz fs,v=>∃us:Array Value,v = .agg us∧us.size=fs.length∧∀(j:Nat) f u,fs[j]? = some f→us[j]? = some u→Oa β L I w f u
def RB(β:Nat→Option Nat)(L I:Nat→Prop)(w:World)(r:Nat)(cells:List EV):Prop :=
 (β r=none∧cells=[])∨∃b arr el,β r=some b∧w.heap[b]? = some (.cells arr el (0,0))∧∀(j:Nat) e,cells[j]? = some e→∃u,arr[j]? = some u∧u.oneCell'=true∧RE β L I w e u
theorem fh{w w':World}{b:Nat}(h:w'.heap[b]? = w.heap[b]?)(o:Nat):w'.cell? ⟨b,o,none⟩=w.cell? ⟨b,o,none⟩:=by simp[World.cell?,h]
theorem kH{w w':World}{b:Nat}(h:w'.heap[b]? = w.heap[b]?):w'.shape? b=w.shape? b:=by simp[World.shape?,h]
theorem Mk.mono{β β':Nat→Option Nat}{L L':Nat→Prop}{w w':World}{r off len sz:Nat}{v:Value}(h:Mk β L w r off len sz v)
  (hβ:∀r,L r→β' r=β r) (hL:∀r,L r→L' r) (hs:∀r b,L r→β r=some b→w'.shape? b=w.shape? b):Mk β' L' w' r off len sz v:=by
 obtain⟨h1,h2|⟨b,c,hb,h2,h3,el,n,h4,h5⟩⟩:=h
 ·exact⟨hL _ h1,.inl (by rw[hβ _ h1];exact h2)⟩
 ·exact⟨hL _ h1,.inr ⟨b,c,by rw[hβ _ h1];exact hb,h2,h3,el,n,by rw[hs _ _ h1 hb];exact h4,h5⟩⟩
theorem Oa.mono{β β':Nat→Option Nat}{L L' I I':Nat→Prop}{w w':World}{f:FE}{v:Value}(h:Oa β L I w f v)
  (hβ:∀r,L r→β' r=β r) (hL:∀r,L r→L' r) (hI:∀b,I b→I' b)
  (hw:∀b o,I b→w'.cell? ⟨b,o,none⟩=w.cell? ⟨b,o,none⟩) (hs:∀r b,L r→β r=some b→w'.shape? b=w.shape? b):Oa β' L' I' w' f v:=by
 cases f with
 |pv p=>exact⟨h.1,h.2.mono hI hw⟩
 |row r off len sz=>exact Mk.mono h hβ hL hs
 |ig j len sz=>exact Mk.mono h hβ hL hs
theorem RE.mono{β β':Nat→Option Nat}{L L' I I':Nat→Prop}{w w':World}{e:EV}{v:Value}(h:RE β L I w e v)
  (hβ:∀r,L r→β' r=β r) (hL:∀r,L r→L' r) (hI:∀b,I b→I' b)
  (hw:∀b o,I b→w'.cell? ⟨b,o,none⟩=w.cell? ⟨b,o,none⟩) (hs:∀r b,L r→β r=some b→w'.shape? b=w.shape? b):RE β' L' I' w' e v:=by
 cases e with
 |pv p=>exact Rd.mono h hI hw
 |ptr r off=>exact⟨hL _ h.1,by rw[hβ _ h.1];exact h.2⟩
 |row r off len sz =>
  obtain⟨h1,h2|⟨b,c,hb,h2,h3,el,n,h4,h5⟩⟩:=h
  ·exact⟨hL _ h1,.inl (by rw[hβ _ h1];exact h2)⟩
  ·exact⟨hL _ h1,.inr ⟨b,c,by rw[hβ _ h1];exact hb,h2,h3,el,n,by rw[hs _ _ h1 hb];exact h4,h5⟩⟩
 |mC cells =>obtain⟨b,o,h1,h2,h3⟩:=h;refine⟨b,o,h1,hI _ h2,fun j x hx => ?_⟩;obtain⟨h4,u,h5,h6⟩:=h3 j x hx;exact⟨h4,u,(hw _ _ h2).trans h5,h6.mono hI hw⟩
 |dead=>exact True.intro
 |mD f r=>exact⟨hL _ h.1,by rw[hβ _ h.1];exact h.2⟩
 |mE j off=>exact⟨hL _ h.1,by rw[hβ _ h.1];exact h.2⟩
 |ig j len sz=>exact Mk.mono h hβ hL hs
 |jA r off len sz ps =>obtain⟨us,g1,g2,⟨u,g3,g4⟩,g5⟩:=h;exact⟨us,g1,g2,⟨u,g3,g4.mono hβ hL hs⟩,fun j p u h1 h2=>(g5 j p u h1 h2).mono hI hw⟩
 |iu r off ps =>obtain⟨us,g1,g2,⟨u,g3,g4,g6⟩,g5⟩:=h;exact⟨us,g1,g2,⟨u,g3,hL _ g4,by rw[hβ _ g4];exact g6⟩,fun j p u h1 h2=>(g5 j p u h1 h2).mono hI hw⟩
 |cM f bs rs =>obtain⟨h1,ab,ac,h2,h3,h4⟩:=h;exact⟨fun r hr=>hL _ (h1 r hr),ab,ac,by rw[adS (fun r hr=>hβ r (h1 r (acH _ hr)))];exact h2,by rw[adS (fun r hr=>hβ r (h1 r (acD _ hr)))];exact h3,h4⟩
 |lz fs =>obtain⟨us,g1,g2,g3⟩:=h;exact⟨us,g1,g2,fun j f u h1 h2=>(g3 j f u h1 h2).mono hβ hL hI hw hs⟩
theorem RB.mono{β β':Nat→Option Nat}{L L' I I':Nat→Prop}{w w':World}{r:Nat}{cells:List EV}(h:RB β L I w r cells)(hr:β' r=β r)
  (hh:∀b,β r=some b→w'.heap[b]? = w.heap[b]?) (hβ:∀r,L r→β' r=β r) (hL:∀r,L r→L' r) (hI:∀b,I b→I' b)
  (hw:∀b o,I b→w'.cell? ⟨b,o,none⟩=w.cell? ⟨b,o,none⟩) (hs:∀r b,L r→β r=some b→w'.shape? b=w.shape? b):RB β' L' I' w' r cells:=by
 rcases h with ⟨h1,h2⟩|⟨b,arr,el,hb,h1,h2⟩
 ·exact .inl ⟨by rw[hr];exact h1,h2⟩
 ·refine .inr ⟨b,arr,el,by rw[hr];exact hb,by rw[hh b hb,h1],fun j e he => ?_⟩;obtain⟨u,h3,h4,h5⟩:=h2 j e he;exact⟨u,h3,h4,h5.mono hβ hL hI hw hs⟩
def Yb:Prop :=
 True
structure yK (B:Nat) (w w':World):Prop extends Below B w w' where
 drawn:Yb→w.drawn≤w'.drawn
theorem yK.refl(B:Nat)(w:World):yK B w w:=⟨Below.refl _ _,fun _=>abW _⟩
theorem yK.drew{B:Nat}{a w:World}(h:yK B a w):yK B a w.drew:=⟨h.toBelow.drew,fun s=>abZ (h.drawn s) (Nat.le_succ _)⟩
theorem yK.alloc{B:Nat}{a w:World}(h:yK B a w)(hB:B≤w.heap.size)(o:Obj):yK B a (w.alloc o):=⟨h.toBelow.alloc hB o,h.drawn⟩
def fresh(w w':World)(b:Nat):Prop:=w.heap.size≤b∧b<w'.heap.size
end Go.Proofs.YtneklnlpgfeplaaGreat.Sym
