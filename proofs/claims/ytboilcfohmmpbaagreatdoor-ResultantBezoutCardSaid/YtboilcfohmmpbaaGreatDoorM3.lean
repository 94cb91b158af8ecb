/- Bezout and Accepts of the program answer as the reference does. -/
import Derived.Test.YtboilcfohmmpbaaGreatDoorM0
import Derived.Test.YtboilcfohmmpbaaGreatDoorM2
import Derived.Test.YtboilcfohmmpbaaGreatDoorChecked
import Derived.Shelf.Strings.BuilderX
import Derived.Shelf.Lays
import Derived.KernelRfl
import Derived.Test.YtboilcfohmmpbaaGreatDoorYObs
import Derived.Shelf.Strconv.Itoa3
import Derived.Shelf.Strings.OnBuilder
import Derived.Test.YtboilcfohmmpbaaGreatDoorM1
import Derived.Test.YtboilcfohmmpbaaGreatDoorRows
import Derived.Test.YtboilcfohmmpbaaGreatDoorCards
import Derived.Test.YtboilcfohmmpbaaGreatDoorTie
import Derived.Deep.DeepHandedRow
import Derived.SevenTiedAt
import Derived.LaidLaws
import Derived.JoinedCond
namespace Go.Proofs.YtboilcfohmmpbaaGreatDoor.Sym.Path
open Go
set_option maxRecDepth 20000
set_option linter.unusedVariables false
namespace resultant_checks
@[reducible] noncomputable def fn:Func:=Tryz.f43
noncomputable def atK1:List Itm:=focus [0,2,0,0,2,0,0] [.code (bodyOf fn)]
def inv1(list:List (List ARat))(t_8:Nat):St:=⟨[(6,(.pv (lpv (lcell ARat.cells) list))),(7,(eI (list.length:Int))),(8,(eI (t_8:Int)))],[]⟩
@[reducible] noncomputable def Loop1(list:List (List ARat))(t_8:Nat)(r:PV):Prop:=L prg fn atK1 (inv1 list t_8) r
theorem e0 (list : List (List ARat)) {r : PV}  (hL : Loop1 list 0 r) : Contract prg 43 [(lpv (lcell ARat.cells) list)] r :=
 Contract.ofL Tryz.func43 (by kernel_rfl) (L.go mixed tabOk (n:=81) (ns:=[1]) (tr:=[.reg [],.reg [.none,(iI (list.length:Int))],.keep [6,7,8]]) (cj (o_len (lcell ARat.cells) list) True.intro) (by kernel_rfl) hL)
theorem l10(list:List (List ARat))(t_8:Nat)(v:List ARat){r:PV}(h1:t_8<list.length)(h2:list[t_8]? = some v)(h3:Contract prg 46 [(polyPV v)] .nilI)(h4:(t_8+1)<9223372036854775808)(hL:Loop1 list (t_8+1) r):Loop1 list t_8 r :=
 L.go mixed tabOk (n:=135) (ns:=[1,3,1,1]) (tr:=[.auto,.reg [],.dec true,.reg [(.row t_8 ((lcell ARat.cells) v))],.reg [.none,(.pv .nilI)],.reg [],.auto,.reg [(iI (((t_8+1):Nat):Int))],.keep [6,7,8]]) (cj (dltN_t h1) (cj (o_at (lcell ARat.cells) (Eq.refl (((t_8:Nat):Int):Int)) h2) (cj h3 (cj (bs_addN h4) True.intro)))) (by kernel_rfl) hL
theorem l11(list:List (List ARat))(t_8:Nat)(v:List ARat)(che:Int)(h1:t_8<list.length)(h2:list[t_8]? = some v)(h3:Contract prg 46 [(polyPV v)] (.iface 61 (vI che))):Loop1 list t_8 (.iface 61 (vI che)) :=
 L.done mixed tabOk (n:=132) (ns:=[1,3,1]) (tr:=[.auto,.reg [],.dec true,.reg [(.row t_8 ((lcell ARat.cells) v))],.reg [.none,(.pv (.iface 61 (vI che)))],.reg [],.auto,.reg []]) (cj (dltN_t h1) (cj (o_at (lcell ARat.cells) (Eq.refl (((t_8:Nat):Int):Int)) h2) (cj h3 True.intro))) (by kernel_rfl)
theorem l12(list:List (List ARat))(t_8:Nat)(h1:list.length≤t_8):Loop1 list t_8 .nilI :=
 L.done mixed tabOk (n:=114) (ns:=[1]) (tr:=[.auto,.reg [],.dec false,.reg []]) (cj (dltN_f h1) True.intro) (by kernel_rfl)
end resultant_checks
namespace resultant_euclid
@[reducible] noncomputable def fn:Func:=Tryz.f77
noncomputable def atK1:List Itm:=focus [0,2,0,2,0,2,0,0,0] [.code (bodyOf fn)]
def inv1(a_7 b_8 x_9 y_10:List ARat):St:=⟨[(7,(.pv (polyPV a_7))),(8,(.pv (polyPV b_8))),(9,(.pv (polyPV x_9))),(10,(.pv (polyPV y_10)))],[]⟩
@[reducible] noncomputable def Loop1(a_7 b_8 x_9 y_10:List ARat)(r:PV):Prop:=L prg fn atK1 (inv1 a_7 b_8 x_9 y_10) r
theorem e0(p q:List ARat)(of:ARat){r:PV}(h1:Contract prg 29 [(vI 1)] of.pv)(hL:Loop1 p q [of] [] r):Contract prg 77 [(polyPV p),(polyPV q)] r :=
 Contract.ofL Tryz.func77 (by kernel_rfl) (L.go mixed tabOk (n:=87) (ns:=[1,3]) (tr:=[.reg [],.reg [],.reg [(.pv of.pv)],.frzT 9 (([of]:List ARat).map ARat.cells),.keep [7,8,9,10]]) (cj h1 (cj (o_frz sz_ARat ([of]:List ARat) (Eq.refl ([of]:List ARat).length)) True.intro)) (by kernel_rfl) hL)
theorem l10(a_7 b_8 x_9 y_10 div div1 mul sub:List ARat){r:PV}(h1:0<b_8.length)(h2:Contract prg 78 [(polyPV a_7),(polyPV b_8)] (.tup [(polyPV div),(polyPV div1),.nilI]))(h3:Contract prg 22 [(polyPV div),(polyPV y_10)] (.tup [(polyPV mul),.nilI]))(h4:Contract prg 119 [(polyPV x_9),(polyPV mul)] (.tup [(polyPV sub),.nilI]))(hL:Loop1 b_8 div1 y_10 sub r):Loop1 a_7 b_8 x_9 y_10 r :=
 L.go mixed tabOk (n:=177) (ns:=[1,1,1,1,1]) (tr:=[.auto,.reg [.none,(iI (b_8.length:Int))],.dec true,.reg [.none,.none,(.pv (.tup [(polyPV div),(polyPV div1),.nilI]))],.reg [],.auto,.reg [.none,.none,(.pv (.tup [(polyPV mul),.nilI]))],.reg [],.auto,.reg [.none,.none,(.pv (.tup [(polyPV sub),.nilI]))],.reg [],.auto,.reg [],.keep [7,8,9,10]]) (cj (o_len ARat.cells b_8) (cj (dltN_t h1) (cj h2 (cj h3 (cj h4 True.intro))))) (by kernel_rfl) hL
theorem l14(a_7 b_8 x_9 y_10:List ARat)(of:ARat)(k:Nat)(v div:ARat)(sca sca2:List ARat)(sca3:Option Int)(h1:b_8.length≤0)(h2:Contract prg 29 [(vI 1)] of.pv)(h3:InI64 ((a_7.length:Int)-1))(h4:((a_7.length:Int)-1)=(k:Int))(h5:a_7[k]? = some v)(h6:Contract prg 49 [of.pv,v.pv] (.tup [div.pv,.nilI]))(h7:Contract prg 76 [(polyPV x_9),div.pv] (.tup [(polyPV sca),.nilI]))(h8:Contract prg 76 [(polyPV a_7),div.pv] (.tup [(polyPV sca2),(errPV sca3)])):Loop1 a_7 b_8 x_9 y_10 (.tup [(polyPV sca),(polyPV sca2),(errPV sca3)]) :=
 L.done mixed tabOk (n:=168) (ns:=[1,1,1,1,1,3,1,1,1]) (tr:=[.auto,.reg [.none,(iI (b_8.length:Int))],.dec false,dr 13 1 [(.pv of.pv),.none,.none,(iI (a_7.length:Int)),(iI ((a_7.length:Int)-1)),(.row k (ARat.cells v)),.none,(.pv (.tup [div.pv,.nilI]))],.reg [],.auto,.reg [.none,.none,(.pv (.tup [(polyPV sca),.nilI]))],.reg [],.auto,.reg [.none,.none,(.pv (.tup [(polyPV sca2),(errPV sca3)]))],.reg []]) (cj (o_len ARat.cells b_8) (cj (dltN_f h1) (cj h2 (cj (o_len ARat.cells a_7) (cj (bs_sub h3) (cj (o_at ARat.cells h4 h5) (cj h6 (cj h7 (cj h8 True.intro))))))))) (by kernel_rfl)
end resultant_euclid
namespace resultant_Bezout
theorem e0(p q:List ARat)(h1:Contract prg 43 [(lpv (lcell ARat.cells) [p,q])] .nilI)(h2:p.length=0)(h3:q.length=0):Contract prg 35 [(polyPV p),(polyPV q)] (.tup [(polyPV []),(polyPV []),(polyPV []),(.iface 61 (vI 8))]) :=
 Contract.ofL Tryz.func35 (by kernel_rfl) (L.done mixed tabOk (n:=105) (ns:=[3,1,1,1,1,1,1,1,1]) (tr:=[.reg [],.reg [.none,.none,(.slc 0 0 (([p,q]:List (List ARat)).map (lcell ARat.cells))),(.pv .nilI)],.reg [],.auto,.reg [.none,(iI (p.length:Int)),.none,.none,.none,(iI (q.length:Int)),.none,(.dec true)],.dec true,.reg []]) (cj (o_bs (sz_l ARat.cells) ([p,q]:List (List ARat))) (cj h1 (cj (o_len ARat.cells p) (cj (deqN_t h2) (cj (deqN_t h2) (cj (o_len ARat.cells q) (cj (deqN_t h2) (cj (deqN_t h2) (cj (deqN_t h3) True.intro))))))))) (by kernel_rfl))
theorem e1(p q euc euc1 div div1 div3 div4 tim les quo:List ARat)(h1:Contract prg 43 [(lpv (lcell ARat.cells) [p,q])] .nilI)(h2:p.length=0)(h3:q.length≠0)(h4:Contract prg 77 [(polyPV p),(polyPV q)] (.tup [(polyPV euc),(polyPV euc1),.nilI]))(h5:Contract prg 78 [(polyPV q),(polyPV euc1)] (.tup [(polyPV div),(polyPV div1),.nilI]))(h6:Contract prg 78 [(polyPV euc),(polyPV div)] (.tup [(polyPV div3),(polyPV div4),.nilI]))(h7:Contract prg 81 [(polyPV div4),(polyPV p)] (polyPV tim))(h8:Contract prg 80 [(polyPV euc1),(polyPV tim)] (polyPV les))(h9:Contract prg 79 [(polyPV les),(polyPV q)] (.tup [(polyPV quo),.nilI])):Contract prg 35 [(polyPV p),(polyPV q)] (.tup [(polyPV div4),(polyPV quo),(polyPV euc1),.nilI]) :=
 Contract.ofL Tryz.func35 (by kernel_rfl) (L.done mixed tabOk (n:=207) (ns:=[3,1,1,1,1,1,1,1,1,1,1,1,1,1,1,1,1]) (tr:=[.reg [],.reg [.none,.none,(.slc 0 0 (([p,q]:List (List ARat)).map (lcell ARat.cells))),(.pv .nilI)],.reg [],.auto,.reg [.none,(iI (p.length:Int)),.none,.none,.none,(iI (q.length:Int)),.none,(.dec true)],.dec false,.reg [.none,(iI (q.length:Int))],.dec false,.reg [.none,.none,(.pv (.tup [(polyPV euc),(polyPV euc1),.nilI]))],.reg [],.auto,.reg [.none,.none,(.pv (.tup [(polyPV div),(polyPV div1),.nilI]))],.reg [],.auto,.reg [.none,.none,(.pv (.tup [(polyPV div3),(polyPV div4),.nilI]))],.reg [],.auto,.reg [.none,.none,.none,(.pv (polyPV tim)),(.pv (polyPV les)),.none,(.pv (.tup [(polyPV quo),.nilI]))],.reg [],.auto,.reg []]) (cj (o_bs (sz_l ARat.cells) ([p,q]:List (List ARat))) (cj h1 (cj (o_len ARat.cells p) (cj (deqN_t h2) (cj (deqN_t h2) (cj (o_len ARat.cells q) (cj (deqN_t h2) (cj (deqN_t h2) (cj (deqN_f h3) (cj (o_len ARat.cells q) (cj (deqN_f h3) (cj h4 (cj h5 (cj h6 (cj h7 (cj h8 (cj h9 True.intro))))))))))))))))) (by kernel_rfl))
theorem e6(p q:List ARat)(of:ARat)(k:Nat)(v div:ARat)(sca:List ARat)(sca1:Option Int)(h1:Contract prg 43 [(lpv (lcell ARat.cells) [p,q])] .nilI)(h2:p.length≠0)(h3:q.length=0)(h4:Contract prg 29 [(vI 1)] of.pv)(h5:InI64 ((p.length:Int)-1))(h6:((p.length:Int)-1)=(k:Int))(h7:p[k]? = some v)(h8:Contract prg 49 [of.pv,v.pv] (.tup [div.pv,.nilI]))(h9:Contract prg 76 [(polyPV p),div.pv] (.tup [(polyPV sca),(errPV sca1)])):Contract prg 35 [(polyPV p),(polyPV q)] (.tup [(polyPV [div]),(polyPV []),(polyPV sca),(errPV sca1)]) :=
 Contract.ofL Tryz.func35 (by kernel_rfl) (L.done mixed tabOk (n:=147) (ns:=[3,1,1,1,1,1,1,1,1,1,1,1,3,1,1,3]) (tr:=[.reg [],.reg [.none,.none,(.slc 0 0 (([p,q]:List (List ARat)).map (lcell ARat.cells))),(.pv .nilI)],.reg [],.auto,.reg [.none,(iI (p.length:Int)),.none,.none,.skip,.skip,.skip,(.dec false)],.auto,.reg [.none,(iI (q.length:Int))],.dec true,dr 13 1 [(.pv of.pv),.none,.none,(iI (p.length:Int)),(iI ((p.length:Int)-1)),(.row k (ARat.cells v)),.none,(.pv (.tup [div.pv,.nilI]))],.reg [],.auto,.reg [.none,.none,(.pv (.tup [(polyPV sca),(errPV sca1)]))],.reg [],.frzT 4 (([div]:List ARat).map ARat.cells)]) (cj (o_bs (sz_l ARat.cells) ([p,q]:List (List ARat))) (cj h1 (cj (o_len ARat.cells p) (cj (deqN_f h2) (cj (deqN_f h2) (cj (deqN_f h2) (cj (deqN_f h2) (cj (o_len ARat.cells q) (cj (deqN_t h3) (cj h4 (cj (o_len ARat.cells p) (cj (bs_sub h5) (cj (o_at ARat.cells h6 h7) (cj h8 (cj h9 (cj (o_frz sz_ARat ([div]:List ARat) (Eq.refl ([div]:List ARat).length)) True.intro)))))))))))))))) (by kernel_rfl))
theorem e8(p q euc euc1 div div1 div3 div4 tim les quo:List ARat)(h1:Contract prg 43 [(lpv (lcell ARat.cells) [p,q])] .nilI)(h2:p.length≠0)(h3:q.length≠0)(h4:Contract prg 77 [(polyPV p),(polyPV q)] (.tup [(polyPV euc),(polyPV euc1),.nilI]))(h5:Contract prg 78 [(polyPV q),(polyPV euc1)] (.tup [(polyPV div),(polyPV div1),.nilI]))(h6:Contract prg 78 [(polyPV euc),(polyPV div)] (.tup [(polyPV div3),(polyPV div4),.nilI]))(h7:Contract prg 81 [(polyPV div4),(polyPV p)] (polyPV tim))(h8:Contract prg 80 [(polyPV euc1),(polyPV tim)] (polyPV les))(h9:Contract prg 79 [(polyPV les),(polyPV q)] (.tup [(polyPV quo),.nilI])):Contract prg 35 [(polyPV p),(polyPV q)] (.tup [(polyPV div4),(polyPV quo),(polyPV euc1),.nilI]) :=
 Contract.ofL Tryz.func35 (by kernel_rfl) (L.done mixed tabOk (n:=207) (ns:=[3,1,1,1,1,1,1,1,1,1,1,1,1,1,1]) (tr:=[.reg [],.reg [.none,.none,(.slc 0 0 (([p,q]:List (List ARat)).map (lcell ARat.cells))),(.pv .nilI)],.reg [],.auto,.reg [.none,(iI (p.length:Int)),.none,.none,.skip,.skip,.skip,(.dec false)],.auto,.reg [.none,(iI (q.length:Int))],.dec false,.reg [.none,.none,(.pv (.tup [(polyPV euc),(polyPV euc1),.nilI]))],.reg [],.auto,.reg [.none,.none,(.pv (.tup [(polyPV div),(polyPV div1),.nilI]))],.reg [],.auto,.reg [.none,.none,(.pv (.tup [(polyPV div3),(polyPV div4),.nilI]))],.reg [],.auto,.reg [.none,.none,.none,(.pv (polyPV tim)),(.pv (polyPV les)),.none,(.pv (.tup [(polyPV quo),.nilI]))],.reg [],.auto,.reg []]) (cj (o_bs (sz_l ARat.cells) ([p,q]:List (List ARat))) (cj h1 (cj (o_len ARat.cells p) (cj (deqN_f h2) (cj (deqN_f h2) (cj (deqN_f h2) (cj (deqN_f h2) (cj (o_len ARat.cells q) (cj (deqN_f h3) (cj h4 (cj h5 (cj h6 (cj h7 (cj h8 (cj h9 True.intro))))))))))))))) (by kernel_rfl))
theorem e13(p q:List ARat)(che:Int)(h1:Contract prg 43 [(lpv (lcell ARat.cells) [p,q])] (.iface 61 (vI che))):Contract prg 35 [(polyPV p),(polyPV q)] (.tup [(polyPV []),(polyPV []),(polyPV []),(.iface 61 (vI che))]) :=
 Contract.ofL Tryz.func35 (by kernel_rfl) (L.done mixed tabOk (n:=90) (ns:=[3,1]) (tr:=[.reg [],.reg [.none,.none,(.slc 0 0 (([p,q]:List (List ARat)).map (lcell ARat.cells))),(.pv (.iface 61 (vI che)))],.reg [],.auto,.reg []]) (cj (o_bs (sz_l ARat.cells) ([p,q]:List (List ARat))) (cj h1 True.intro)) (by kernel_rfl))
end resultant_Bezout
namespace resultant_times
@[reducible] noncomputable def fn:Func:=Tryz.f81
noncomputable def atK1:List Itm:=focus [0,2,0,0,2,1,2,0,2,0,0,2,0,0] [.code (bodyOf fn)]
def inv1(q:List ARat)(m:Nat)(p:List ARat)(t_27:Nat)(site_24:List ARat):St:=⟨[(1,(.pv (polyPV q))),(5,(.row 24 0 m 3)),(25,(.pv (polyPV p))),(26,(eI (p.length:Int))),(27,(eI (t_27:Int)))],[(24,(.pure ((site_24:List ARat).map ARat.cells).flatten))]⟩
@[reducible] noncomputable def Loop1(q:List ARat)(m:Nat)(p:List ARat)(t_27:Nat)(site_24:List ARat)(r:PV):Prop:=L prg fn atK1 (inv1 q m p t_27 site_24) r
noncomputable def atK2:List Itm:=focus [0,2,0,0,2,1,2,0,2,0,0,2,0,0,0,0,2,0,0,2,0,0,0,2,0,2,0,0] [.code (bodyOf fn)]
def inv2(q:List ARat)(m i_6:Nat)(p:List ARat)(t_27 t_34:Nat)(v:ARat)(site_24:List ARat):St:=⟨[(1,(.pv (polyPV q))),(5,(.row 24 0 m 3)),(6,(eI (i_6:Int))),(7,(.ptr 7 0)),(25,(.pv (polyPV p))),(26,(eI (p.length:Int))),(27,(eI (t_27:Int))),(32,(.pv (polyPV q))),(33,(eI (q.length:Int))),(34,(eI (t_34:Int)))],[(7,(.lit [(eB v.neg),(.pv (wordsPV v.num)),(.pv (wordsPV v.den))])),(24,(.pure ((site_24:List ARat).map ARat.cells).flatten))]⟩
@[reducible] noncomputable def Loop2(q:List ARat)(m i_6:Nat)(p:List ARat)(t_27 t_34:Nat)(v:ARat)(site_24:List ARat)(r:PV):Prop:=L prg fn atK2 (inv2 q m i_6 p t_27 t_34 v site_24) r
theorem e0(p q:List ARat)(h1:p.length=0):Contract prg 81 [(polyPV p),(polyPV q)] (polyPV []) :=
 Contract.ofL Tryz.func81 (by kernel_rfl) (L.done mixed tabOk (n:=84) (ns:=[1,1,1,1,1]) (tr:=[.reg [],.reg [.none,(iI (p.length:Int)),.none,.none,.skip,.skip,.skip,(.dec true)],.auto,.reg []]) (cj (o_len ARat.cells p) (cj (deqN_t h1) (cj (deqN_t h1) (cj (deqN_t h1) (cj (deqN_t h1) True.intro))))) (by kernel_rfl))
theorem e1(p q:List ARat)(h1:p.length≠0)(h2:q.length=0):Contract prg 81 [(polyPV p),(polyPV q)] (polyPV []) :=
 Contract.ofL Tryz.func81 (by kernel_rfl) (L.done mixed tabOk (n:=84) (ns:=[1,1,1,1,1,1,1]) (tr:=[.reg [],.reg [.none,(iI (p.length:Int)),.none,.none,.none,(iI (q.length:Int)),.none,(.dec false)],.dec true,.reg []]) (cj (o_len ARat.cells p) (cj (deqN_f h1) (cj (deqN_f h1) (cj (o_len ARat.cells q) (cj (deqN_f h1) (cj (deqN_f h1) (cj (deqN_t h2) True.intro))))))) (by kernel_rfl))
theorem e2(p q:List ARat)(m:Nat){r:PV}(h1:p.length≠0)(h2:q.length≠0)(h3:(p.length+q.length)<9223372036854775808)(h4:InI64 ((((p.length+q.length):Nat):Int)-1))(h5:((((p.length+q.length):Nat):Int)-1)=(m:Int))(h6:56*m≤140737488355328)(hL:Loop1 q m p 0 (List.replicate m (⟨false,[],[]⟩:ARat)) r):Contract prg 81 [(polyPV p),(polyPV q)] r :=
 Contract.ofL Tryz.func81 (by kernel_rfl) (L.go mixed tabOk (n:=102) (ns:=[1,1,1,1,1,1,1,1,1,1,1,5,1]) (tr:=[.reg [],.reg [.none,(iI (p.length:Int)),.none,.none,.none,(iI (q.length:Int)),.none,(.dec false)],.dec false,.reg [.none,(iI (p.length:Int)),.none,(iI (q.length:Int)),(iI (((p.length+q.length):Nat):Int)),(iI ((((p.length+q.length):Nat):Int)-1)),(.app m ((List.replicate m (⟨false,[],[]⟩:ARat):List ARat).map ARat.cells).flatten)],.reg [.none,(iI (p.length:Int))],.keep [1,5,25,26,27]]) (cj (o_len ARat.cells p) (cj (deqN_f h1) (cj (deqN_f h1) (cj (o_len ARat.cells q) (cj (deqN_f h1) (cj (deqN_f h1) (cj (deqN_f h2) (cj (o_len ARat.cells p) (cj (o_len ARat.cells q) (cj (bs_addN h3) (cj (bs_sub h4) (cj (o_mk ARat.cells (⟨false,[],[]⟩:ARat) 56 m h5 h6 rfl) (cj (o_len ARat.cells p) True.intro))))))))))))) (by kernel_rfl) hL)
theorem l10(q:List ARat)(m:Nat)(p:List ARat)(t_27:Nat)(site_24:List ARat)(v:ARat){r:PV}(h1:t_27<p.length)(h2:p[t_27]? = some v)(hL:Loop2 q m t_27 p t_27 0 v site_24 r):Loop1 q m p t_27 site_24 r :=
 L.go mixed tabOk (n:=144) (ns:=[1,3,1]) (tr:=[.auto,.reg [],.dec true,.reg [.none,(.row t_27 (ARat.cells v))],.reg [.none,(iI (q.length:Int))],.keep [1,5,6,7,25,26,27,32,33,34]]) (cj (dltN_t h1) (cj (o_at ARat.cells (Eq.refl (((t_27:Nat):Int):Int)) h2) (cj (o_len ARat.cells q) True.intro))) (by kernel_rfl) hL
theorem l11(q:List ARat)(m:Nat)(p:List ARat)(t_27:Nat)(site_24:List ARat)(h1:p.length≤t_27)(h2:m=site_24.length):Loop1 q m p t_27 site_24 (polyPV site_24) :=
 L.done mixed tabOk (n:=135) (ns:=[1,3]) (tr:=[.auto,.reg [],.dec false,.reg [],.frzT 4 ((site_24:List ARat).map ARat.cells)]) (cj (dltN_f h1) (cj (o_frz sz_ARat (site_24:List ARat) h2) True.intro)) (by kernel_rfl)
theorem l20(q:List ARat)(m i_6:Nat)(p:List ARat)(t_27 t_34:Nat)(v:ARat)(site_24:List ARat)(v1 v2 mul add:ARat){r:PV}(h1:t_34<q.length)(h2:q[t_34]? = some v1)(h3:(i_6+t_34)<9223372036854775808)(h4:(i_6+t_34)<m)(h5:site_24[(i_6+t_34)]? = some v2)(h6:Contract prg 25 [v.pv,v1.pv] mul.pv)(h7:Contract prg 68 [v2.pv,mul.pv] add.pv)(h8:(i_6+t_34)<site_24.length)(h9:(t_34+1)<9223372036854775808)(hL:Loop2 q m i_6 p t_27 (t_34+1) v (site_24.set (i_6+t_34) add) r):Loop2 q m i_6 p t_27 t_34 v site_24 r :=
 L.go mixed tabOk (n:=183) (ns:=[1,3,1,1,2,2,1,1,2,2,1]) (tr:=[.auto,.reg [],.dec true,.reg [.none,(.row t_34 (ARat.cells v1))],dr 15 1 [.none,.none,.none,(iI (((i_6+t_34):Nat):Int)),.none,.none,.none,(iI (((i_6+t_34):Nat):Int)),(.nat (i_6+t_34)),(.seg [(vB v2.neg),(wordsPV v2.num),(wordsPV v2.den)]),.none,.none,(.pv mul.pv),(.pv add.pv),(.nat (i_6+t_34)),(.cells (.pure (((site_24.set (i_6+t_34) add):List ARat).map ARat.cells).flatten))],.reg [(iI (((t_34+1):Nat):Int))],.keep [1,5,6,7,25,26,27,32,33,34],.drop [9]]) (cj (dltN_t h1) (cj (o_at ARat.cells (Eq.refl (((t_34:Nat):Int):Int)) h2) (cj (bs_addN h3) (cj (bs_addN h3) (cj (cj (Eq.refl ((((i_6+t_34):Nat):Int):Int)) h4) (cj (o_seg sz_ARat h5) (cj h6 (cj h7 (cj (cj (Eq.refl ((((i_6+t_34):Nat):Int):Int)) h4) (cj (o_set sz_ARat (site_24:List ARat) add h8) (cj (bs_addN h9) True.intro))))))))))) (by kernel_rfl) hL
theorem l21(q:List ARat)(m i_6:Nat)(p:List ARat)(t_27 t_34:Nat)(v:ARat)(site_24:List ARat){r:PV}(h1:q.length≤t_34)(h2:(t_27+1)<9223372036854775808)(hL:Loop1 q m p (t_27+1) site_24 r):Loop2 q m i_6 p t_27 t_34 v site_24 r :=
 L.go mixed tabOk (n:=177) (ns:=[1,1]) (tr:=[.auto,.reg [],.dec false,.reg [(iI (((t_27+1):Nat):Int))],.keep [1,5,25,26,27],.drop [7]]) (cj (dltN_f h1) (cj (bs_addN h2) True.intro)) (by kernel_rfl) hL
end resultant_times
namespace resultant_less
@[reducible] noncomputable def fn:Func:=Tryz.f80
noncomputable def atK1:List Itm:=focus [0,2,0,2,0,0,2,0,0] [.code (bodyOf fn)]
def inv1(p q:List ARat)(t_15:Nat)(site_12:List ARat):St:=⟨[(0,(.pv (polyPV p))),(1,(.pv (polyPV q))),(5,(.row 12 0 (max p.length q.length) 3)),(14,(eI (((max p.length q.length):Nat):Int))),(15,(eI (t_15:Int)))],[(12,(.pure ((site_12:List ARat).map ARat.cells).flatten))]⟩
@[reducible] noncomputable def Loop1(p q:List ARat)(t_15:Nat)(site_12:List ARat)(r:PV):Prop:=L prg fn atK1 (inv1 p q t_15 site_12) r
theorem e0(p q:List ARat){r:PV}(h1:56*(max p.length q.length)≤140737488355328)(hL:Loop1 p q 0 (List.replicate (max p.length q.length) (⟨false,[],[]⟩:ARat)) r):Contract prg 80 [(polyPV p),(polyPV q)] r :=
 Contract.ofL Tryz.func80 (by kernel_rfl) (L.go mixed tabOk (n:=87) (ns:=[1,1,1,5]) (tr:=[.reg [],.reg [.none,(iI (p.length:Int)),.none,(iI (q.length:Int)),(iI (((max p.length q.length):Nat):Int)),(.app (max p.length q.length) ((List.replicate (max p.length q.length) (⟨false,[],[]⟩:ARat):List ARat).map ARat.cells).flatten)],.reg [],.keep [0,1,5,14,15]]) (cj (o_len ARat.cells p) (cj (o_len ARat.cells q) (cj (o_maxN p.length q.length) (cj (o_mk ARat.cells (⟨false,[],[]⟩:ARat) 56 (max p.length q.length) (Eq.refl ((((max p.length q.length):Nat):Int):Int)) h1 rfl) True.intro)))) (by kernel_rfl) hL)
theorem l10(p q:List ARat)(t_15:Nat)(site_12:List ARat)(v v1 v2 sub:ARat){r:PV}(h1:t_15<(max p.length q.length))(h2:t_15<p.length)(h3:p[t_15]? = some v)(h4:t_15<site_12.length)(h5:t_15<q.length)(h6:(site_12.set t_15 v)[t_15]? = some v1)(h7:q[t_15]? = some v2)(h8:Contract prg 34 [v1.pv,v2.pv] sub.pv)(h9:t_15<(site_12.set t_15 v).length)(h10:(t_15+1)<9223372036854775808)(hL:Loop1 p q (t_15+1) ((site_12.set t_15 v).set t_15 sub) r):Loop1 p q t_15 site_12 r :=
 L.go mixed tabOk (n:=150) (ns:=[1,1,1,3,2,2,1,1,2,2,3,1,2,2,1]) (tr:=[.auto,.reg [],.dec true,.reg [],.reg [.none,.none,(iI (p.length:Int))],.dec true,.reg [.none,.none,.none,.none,(.row t_15 (ARat.cells v)),.none,(.nat t_15),(.cells (.pure (((site_12.set t_15 v):List ARat).map ARat.cells).flatten))],.reg [.none,.none,(iI (q.length:Int))],.dec true,dr 12 1 [.none,.none,.none,.none,(.nat t_15),(.seg [(vB v1.neg),(wordsPV v1.num),(wordsPV v1.den)]),.none,.none,(.row t_15 (ARat.cells v2)),.none,(.pv sub.pv),(.nat t_15),(.cells (.pure ((((site_12.set t_15 v).set t_15 sub):List ARat).map ARat.cells).flatten))],.reg [(iI (((t_15+1):Nat):Int))],.keep [0,1,5,14,15]]) (cj (dltN_t h1) (cj (o_len ARat.cells p) (cj (dltN_t h2) (cj (o_at ARat.cells (Eq.refl (((t_15:Nat):Int):Int)) h3) (cj (cj (Eq.refl (((t_15:Nat):Int):Int)) h1) (cj (o_set sz_ARat (site_12:List ARat) v h4) (cj (o_len ARat.cells q) (cj (dltN_t h5) (cj (cj (Eq.refl (((t_15:Nat):Int):Int)) h1) (cj (o_seg sz_ARat h6) (cj (o_at ARat.cells (Eq.refl (((t_15:Nat):Int):Int)) h7) (cj h8 (cj (cj (Eq.refl (((t_15:Nat):Int):Int)) h1) (cj (o_set sz_ARat ((site_12.set t_15 v):List ARat) sub h9) (cj (bs_addN h10) True.intro))))))))))))))) (by kernel_rfl) hL
theorem l11(p q:List ARat)(t_15:Nat)(site_12:List ARat)(v:ARat){r:PV}(h1:t_15<(max p.length q.length))(h2:t_15<p.length)(h3:p[t_15]? = some v)(h4:t_15<site_12.length)(h5:q.length≤t_15)(h6:(t_15+1)<9223372036854775808)(hL:Loop1 p q (t_15+1) (site_12.set t_15 v) r):Loop1 p q t_15 site_12 r :=
 L.go mixed tabOk (n:=150) (ns:=[1,1,1,3,2,2,1,1,1]) (tr:=[.auto,.reg [],.dec true,.reg [],.reg [.none,.none,(iI (p.length:Int))],.dec true,.reg [.none,.none,.none,.none,(.row t_15 (ARat.cells v)),.none,(.nat t_15),(.cells (.pure (((site_12.set t_15 v):List ARat).map ARat.cells).flatten))],.reg [.none,.none,(iI (q.length:Int))],.dec false,.reg [(iI (((t_15+1):Nat):Int))],.keep [0,1,5,14,15]]) (cj (dltN_t h1) (cj (o_len ARat.cells p) (cj (dltN_t h2) (cj (o_at ARat.cells (Eq.refl (((t_15:Nat):Int):Int)) h3) (cj (cj (Eq.refl (((t_15:Nat):Int):Int)) h1) (cj (o_set sz_ARat (site_12:List ARat) v h4) (cj (o_len ARat.cells q) (cj (dltN_f h5) (cj (bs_addN h6) True.intro))))))))) (by kernel_rfl) hL
theorem l12(p q:List ARat)(t_15:Nat)(site_12:List ARat)(v v1 sub:ARat){r:PV}(h1:t_15<(max p.length q.length))(h2:p.length≤t_15)(h3:t_15<q.length)(h4:site_12[t_15]? = some v)(h5:q[t_15]? = some v1)(h6:Contract prg 34 [v.pv,v1.pv] sub.pv)(h7:t_15<site_12.length)(h8:(t_15+1)<9223372036854775808)(hL:Loop1 p q (t_15+1) (site_12.set t_15 sub) r):Loop1 p q t_15 site_12 r :=
 L.go mixed tabOk (n:=150) (ns:=[1,1,1,1,1,2,2,3,1,2,2,1]) (tr:=[.auto,.reg [],.dec true,.reg [],.reg [.none,.none,(iI (p.length:Int))],.dec false,.reg [.none,.none,(iI (q.length:Int))],.dec true,dr 12 1 [.none,.none,.none,.none,(.nat t_15),(.seg [(vB v.neg),(wordsPV v.num),(wordsPV v.den)]),.none,.none,(.row t_15 (ARat.cells v1)),.none,(.pv sub.pv),(.nat t_15),(.cells (.pure (((site_12.set t_15 sub):List ARat).map ARat.cells).flatten))],.reg [(iI (((t_15+1):Nat):Int))],.keep [0,1,5,14,15]]) (cj (dltN_t h1) (cj (o_len ARat.cells p) (cj (dltN_f h2) (cj (o_len ARat.cells q) (cj (dltN_t h3) (cj (cj (Eq.refl (((t_15:Nat):Int):Int)) h1) (cj (o_seg sz_ARat h4) (cj (o_at ARat.cells (Eq.refl (((t_15:Nat):Int):Int)) h5) (cj h6 (cj (cj (Eq.refl (((t_15:Nat):Int):Int)) h1) (cj (o_set sz_ARat (site_12:List ARat) sub h7) (cj (bs_addN h8) True.intro)))))))))))) (by kernel_rfl) hL
theorem l14(p q:List ARat)(t_15:Nat)(site_12:List ARat)(h1:(max p.length q.length)≤t_15)(h2:(max p.length q.length)=site_12.length):Loop1 p q t_15 site_12 (polyPV site_12) :=
 L.done mixed tabOk (n:=120) (ns:=[1,3]) (tr:=[.auto,.reg [],.dec false,.reg [],.frzT 4 ((site_12:List ARat).map ARat.cells)]) (cj (dltN_f h1) (cj (o_frz sz_ARat (site_12:List ARat) h2) True.intro)) (by kernel_rfl)
end resultant_less
namespace resultant_quotient
@[reducible] noncomputable def fn:Func:=Tryz.f79
noncomputable def atK1:List Itm:=focus [0,2,0,2,0,2,0,0,0] [.code (bodyOf fn)]
def inv1(q:List ARat)(len_14 m:Nat)(site_14 site_22:List ARat):St:=⟨[(1,(.pv (polyPV q))),(6,(.row 14 0 len_14 3)),(7,(.row 22 0 m 3))],[(14,(.pure ((site_14:List ARat).map ARat.cells).flatten)),(22,(.pure ((site_22:List ARat).map ARat.cells).flatten))]⟩
@[reducible] noncomputable def Loop1(q:List ARat)(len_14 m:Nat)(site_14 site_22:List ARat)(r:PV):Prop:=L prg fn atK1 (inv1 q len_14 m site_14 site_22) r
noncomputable def atK2:List Itm:=focus [0,2,0,2,0,2,0,0,0,0,0,0,2,0,2,0,0,2,0,2,0,0,2,1,2,0,2,0,0,2,0,0] [.code (bodyOf fn)]
def inv2(q:List ARat)(len_14 m:Nat)(shift_8:Int)(t_58:Nat)(div:ARat)(site_14 site_22:List ARat):St:=⟨[(1,(.pv (polyPV q))),(6,(.row 14 0 len_14 3)),(7,(.row 22 0 m 3)),(8,(eI shift_8)),(9,(.ptr 9 0)),(56,(.pv (polyPV q))),(57,(eI (q.length:Int))),(58,(eI (t_58:Int)))],[(9,(.lit [(eB div.neg),(.pv (wordsPV div.num)),(.pv (wordsPV div.den))])),(14,(.pure ((site_14:List ARat).map ARat.cells).flatten)),(22,(.pure ((site_22:List ARat).map ARat.cells).flatten))]⟩
@[reducible] noncomputable def Loop2(q:List ARat)(len_14 m:Nat)(shift_8:Int)(t_58:Nat)(div:ARat)(site_14 site_22:List ARat)(r:PV):Prop:=L prg fn atK2 (inv2 q len_14 m shift_8 t_58 div site_14 site_22) r
theorem e0(l q z:List ARat)(n m:Nat){r:PV}(h1:ContractX prg 105 [.pv (polyPV l)] [] (.row 0 0 n 3) [(0,(.pure ((z:List ARat).map ARat.cells).flatten))])(h2:InI64 ((n:Int)-(q.length:Int)))(h3:InI64 (((n:Int)-(q.length:Int))+1))(h4:(max 0 (((n:Int)-(q.length:Int))+1))=(m:Int))(h5:56*m≤140737488355328)(hL:Loop1 q n m z (List.replicate m (⟨false,[],[]⟩:ARat)) r):Contract prg 79 [(polyPV l),(polyPV q)] r :=
 Contract.ofL Tryz.func79 (by kernel_rfl) (L.go mixed tabOk (n:=87) (ns:=[1,1,1,1,1,5]) (tr:=[.reg [],.reg [.none,(.callX [] (some (0,14)) (.row 0 0 n 3) [(0,(.pure ((z:List ARat).map ARat.cells).flatten))])],.reg [.none,.none,.none,(iI (q.length:Int)),(iI ((n:Int)-(q.length:Int))),(iI (((n:Int)-(q.length:Int))+1)),(iI (max 0 (((n:Int)-(q.length:Int))+1))),(.app m ((List.replicate m (⟨false,[],[]⟩:ARat):List ARat).map ARat.cells).flatten)],.keep [1,6,7],.ord [14,22]]) (cj h1 (cj (o_len ARat.cells q) (cj (bs_sub h2) (cj (bs_add h3) (cj (o_maxI 0 (((n:Int)-(q.length:Int))+1)) (cj (o_mk ARat.cells (⟨false,[],[]⟩:ARat) 56 m h4 h5 rfl) True.intro)))))) (by kernel_rfl) hL)
theorem l10(q:List ARat)(len_14 m:Nat)(site_14 site_22:List ARat)(k:Nat)(v:ARat)(k1:Nat)(v1 div:ARat)(k2:Nat){r:PV}(h1:q.length≤len_14)(h2:InI64 ((len_14:Int)-(q.length:Int)))(h3:InI64 ((len_14:Int)-1))(h4:((len_14:Int)-1)=(k:Int))(h5:k<len_14)(h6:site_14[k]? = some v)(h7:InI64 ((q.length:Int)-1))(h8:((q.length:Int)-1)=(k1:Int))(h9:q[k1]? = some v1)(h10:Contract prg 49 [v.pv,v1.pv] (.tup [div.pv,.nilI]))(h11:((len_14:Int)-(q.length:Int))=(k2:Int))(h12:k2<m)(h13:k2<site_22.length)(hL:Loop2 q len_14 m ((len_14:Int)-(q.length:Int)) 0 div site_14 (site_22.set k2 div) r):Loop1 q len_14 m site_14 site_22 r :=
 L.go mixed tabOk (n:=156) (ns:=[1,1,1,1,1,2,2,1,1,3,1,2,2,1]) (tr:=[.auto,.reg [.none,.none,.none,(iI (q.length:Int))],.dec true,.reg [.none,.none,.none,(iI (q.length:Int)),(iI ((len_14:Int)-(q.length:Int)))],dr 18 1 [.none,.none,.none,(iI ((len_14:Int)-1)),(.nat k),(.seg [(vB v.neg),(wordsPV v.num),(wordsPV v.den)]),.none,.none,(iI (q.length:Int)),(iI ((q.length:Int)-1)),(.row k1 (ARat.cells v1)),.none,(.pv (.tup [div.pv,.nilI]))],.reg [],.auto,.reg [.none,.none,.none,(.nat k2),(.cells (.pure (((site_22.set k2 div):List ARat).map ARat.cells).flatten))],.reg [.none,(iI (q.length:Int))],.keep [1,6,7,8,9,56,57,58]]) (cj (o_len ARat.cells q) (cj (dleN_t h1) (cj (o_len ARat.cells q) (cj (bs_sub h2) (cj (bs_sub h3) (cj (cj h4 h5) (cj (o_seg sz_ARat h6) (cj (o_len ARat.cells q) (cj (bs_sub h7) (cj (o_at ARat.cells h8 h9) (cj h10 (cj (cj h11 h12) (cj (o_set sz_ARat (site_22:List ARat) div h13) (cj (o_len ARat.cells q) True.intro)))))))))))))) (by kernel_rfl) hL
theorem l12(q:List ARat)(len_14 m:Nat)(site_14 site_22 tri:List ARat)(h1:len_14<q.length)(h2:m=site_22.length)(h3:Contract prg 105 [(polyPV site_22)] (polyPV tri)):Loop1 q len_14 m site_14 site_22 (.tup [(polyPV tri),.nilI]) :=
 L.done mixed tabOk (n:=120) (ns:=[1,1,3,1]) (tr:=[.auto,.reg [.none,.none,.none,(iI (q.length:Int))],.dec false,.frzT 7 ((site_22:List ARat).map ARat.cells),.reg [.none,(.pv (polyPV tri))]]) (cj (o_len ARat.cells q) (cj (dleN_f h1) (cj (o_frz sz_ARat (site_22:List ARat) h2) (cj h3 True.intro)))) (by kernel_rfl)
theorem l20(q:List ARat)(len_14 m:Nat)(shift_8:Int)(t_58:Nat)(div:ARat)(site_14 site_22:List ARat)(v:ARat)(k:Nat)(v1 mul sub:ARat)(k1:Nat){r:PV}(h1:t_58<q.length)(h2:q[t_58]? = some v)(h3:InI64 (shift_8+(t_58:Int)))(h4:(shift_8+(t_58:Int))=(k:Int))(h5:k<len_14)(h6:site_14[k]? = some v1)(h7:Contract prg 25 [div.pv,v.pv] mul.pv)(h8:Contract prg 34 [v1.pv,mul.pv] sub.pv)(h9:(shift_8+(t_58:Int))=(k1:Int))(h10:k1<len_14)(h11:k1<site_14.length)(h12:(t_58+1)<9223372036854775808)(hL:Loop2 q len_14 m shift_8 (t_58+1) div (site_14.set k1 sub) site_22 r):Loop2 q len_14 m shift_8 t_58 div site_14 site_22 r :=
 L.go mixed tabOk (n:=195) (ns:=[1,3,1,1,2,2,1,1,2,2,1]) (tr:=[.auto,.reg [],.dec true,.reg [.none,(.row t_58 (ARat.cells v))],dr 15 1 [.none,.none,.none,(iI (shift_8+(t_58:Int))),.none,.none,.none,(iI (shift_8+(t_58:Int))),(.nat k),(.seg [(vB v1.neg),(wordsPV v1.num),(wordsPV v1.den)]),.none,.none,(.pv mul.pv),(.pv sub.pv),(.nat k1),(.cells (.pure (((site_14.set k1 sub):List ARat).map ARat.cells).flatten))],.reg [(iI (((t_58+1):Nat):Int))],.keep [1,6,7,8,9,56,57,58],.drop [12]]) (cj (dltN_t h1) (cj (o_at ARat.cells (Eq.refl (((t_58:Nat):Int):Int)) h2) (cj (bs_add h3) (cj (bs_add h3) (cj (cj h4 h5) (cj (o_seg sz_ARat h6) (cj h7 (cj h8 (cj (cj h9 h10) (cj (o_set sz_ARat (site_14:List ARat) sub h11) (cj (bs_addN h12) True.intro))))))))))) (by kernel_rfl) hL
theorem l21(q:List ARat)(len_14 m:Nat)(shift_8:Int)(t_58:Nat)(div:ARat)(site_14 site_22 z:List ARat)(n:Nat){r:PV}(h1:q.length≤t_58)(h2:len_14=site_14.length)(h3:ContractX prg 105 [.pv (polyPV site_14)] [] (.row 0 0 n 3) [(0,(.pure ((z:List ARat).map ARat.cells).flatten))])(hL:Loop1 q n m z site_22 r):Loop2 q len_14 m shift_8 t_58 div site_14 site_22 r :=
 L.go mixed tabOk (n:=189) (ns:=[1,3,1]) (tr:=[.auto,.reg [],.dec false,.frzT 6 ((site_14:List ARat).map ARat.cells),.reg [.none,(.callX [] (some (0,80)) (.row 0 0 n 3) [(0,(.pure ((z:List ARat).map ARat.cells).flatten))])],.keep [1,6,7],.drop [9],.ren 80 14]) (cj (dltN_f h1) (cj (o_frz sz_ARat (site_14:List ARat) h2) (cj h3 True.intro))) (by kernel_rfl) hL
end resultant_quotient
namespace resultant_Accepts
@[reducible] noncomputable def fn:Func:=Tryz.f36
noncomputable def atK1:List Itm:=focus [0,2,0,0,2,0,2,1,2,0,2,0,0,2,1,2,0,2,0,0,2,1,2,0,2,0,0,2,1,2,0,0,2,1,2,0,0,2,0,0] [.code (bodyOf fn)]
def inv1(g:List ARat)(t_83:Nat)(p q:List ARat):St:=⟨[(4,(.pv (polyPV g))),(81,(.row 81 0 2 1)),(82,(eI 2)),(83,(eI (t_83:Int)))],[(81,(.pure (([p,q]:List (List ARat)).map (lcell ARat.cells)).flatten))]⟩
@[reducible] noncomputable def Loop1(g:List ARat)(t_83:Nat)(p q:List ARat)(r:PV):Prop:=L prg fn atK1 (inv1 g t_83 p q) r
theorem e0(p q u v g mul mul2 add:List ARat)(h1:Contract prg 43 [(lpv (lcell ARat.cells) [p,q,u,v,g])] .nilI)(h2:Contract prg 22 [(polyPV u),(polyPV p)] (.tup [(polyPV mul),.nilI]))(h3:Contract prg 22 [(polyPV v),(polyPV q)] (.tup [(polyPV mul2),.nilI]))(h4:Contract prg 82 [(polyPV mul),(polyPV mul2)] (.tup [(polyPV add),.nilI]))(h5:g.length=0):Contract prg 36 [(polyPV p),(polyPV q),(polyPV u),(polyPV v),(polyPV g)] (.tup [(vB false),.nilI]) :=
 Contract.ofL Tryz.func36 (by kernel_rfl) (L.done mixed tabOk (n:=168) (ns:=[3,1,1,1,1,1,1,1,1,1,1,1,1,1,1,1,1,1,1,1]) (tr:=[.reg [],.reg [.none,.none,.none,.none,.none,(.slc 0 0 (([p,q,u,v,g]:List (List ARat)).map (lcell ARat.cells))),(.pv .nilI)],.reg [],.auto,.reg [.none,.none,(.pv (.tup [(polyPV mul),.nilI]))],.reg [],.auto,.reg [.none,.none,(.pv (.tup [(polyPV mul2),.nilI]))],.reg [],.auto,.reg [.none,.none,(.pv (.tup [(polyPV add),.nilI]))],.reg [],.auto,dr 20 0 [.none,(iI (g.length:Int)),.none,.none,.skip,.skip,.skip,.skip,.skip,.skip,.skip,.skip,.skip,(.dec true),.none,.skip,.skip,.skip,.skip],.auto,.reg []]) (cj (o_bs (sz_l ARat.cells) ([p,q,u,v,g]:List (List ARat))) (cj h1 (cj h2 (cj h3 (cj h4 (cj (o_len ARat.cells g) (cj (deqN_t h5) (cj (deqN_t h5) (cj (deqN_t h5) (cj (deqN_t h5) (cj (deqN_t h5) (cj (deqN_t h5) (cj (deqN_t h5) (cj (deqN_t h5) (cj (deqN_t h5) (cj (deqN_t h5) (cj (Eq.refl true) (cj (Eq.refl true) (cj (Eq.refl true) (cj (Eq.refl true) True.intro)))))))))))))))))))) (by kernel_rfl))
theorem e1(p q u v g mul mul2 add:List ARat)(k:Nat)(v1 of:ARat)(cmp:Int)(h1:Contract prg 43 [(lpv (lcell ARat.cells) [p,q,u,v,g])] .nilI)(h2:Contract prg 22 [(polyPV u),(polyPV p)] (.tup [(polyPV mul),.nilI]))(h3:Contract prg 22 [(polyPV v),(polyPV q)] (.tup [(polyPV mul2),.nilI]))(h4:Contract prg 82 [(polyPV mul),(polyPV mul2)] (.tup [(polyPV add),.nilI]))(h5:g.length≠0)(h6:InI64 ((g.length:Int)-1))(h7:((g.length:Int)-1)=(k:Int))(h8:g[k]? = some v1)(h9:Contract prg 29 [(vI 1)] of.pv)(h10:Contract prg 24 [v1.pv,of.pv] (vI cmp))(h11:cmp≠0):Contract prg 36 [(polyPV p),(polyPV q),(polyPV u),(polyPV v),(polyPV g)] (.tup [(vB false),.nilI]) :=
 Contract.ofL Tryz.func36 (by kernel_rfl) (L.done mixed tabOk (n:=168) (ns:=[3,1,1,1,1,1,1,1,1,1,1,1,1,3,1,1,1,1,1,1,1,1,1,1,1,1]) (tr:=[.reg [],.reg [.none,.none,.none,.none,.none,(.slc 0 0 (([p,q,u,v,g]:List (List ARat)).map (lcell ARat.cells))),(.pv .nilI)],.reg [],.auto,.reg [.none,.none,(.pv (.tup [(polyPV mul),.nilI]))],.reg [],.auto,.reg [.none,.none,(.pv (.tup [(polyPV mul2),.nilI]))],.reg [],.auto,.reg [.none,.none,(.pv (.tup [(polyPV add),.nilI]))],.reg [],.auto,dr 20 0 [.none,(iI (g.length:Int)),.none,.none,.none,.none,(iI (g.length:Int)),(iI ((g.length:Int)-1)),(.row k (ARat.cells v1)),.none,(.pv of.pv),(.pv (vI cmp)),.none,(.dec false),.none,.skip,.skip,.skip,.skip,(.dec true)],.auto,.reg []]) (cj (o_bs (sz_l ARat.cells) ([p,q,u,v,g]:List (List ARat))) (cj h1 (cj h2 (cj h3 (cj h4 (cj (o_len ARat.cells g) (cj (deqN_f h5) (cj (deqN_f h5) (cj (deqN_f h5) (cj (o_len ARat.cells g) (cj (deqN_f h5) (cj (bs_sub h6) (cj (deqN_f h5) (cj (o_at ARat.cells h7 h8) (cj (deqN_f h5) (cj (deqN_f h5) (cj h9 (cj (deqN_f h5) (cj h10 (cj (deqN_f h5) (cj (deqN_f h5) (cj (dne_t h11) (cj (dne_t h11) (cj (dne_t h11) (cj (dne_t h11) (cj (dne_t h11) True.intro)))))))))))))))))))))))))) (by kernel_rfl))
theorem e2(p q u v g mul mul2 add:List ARat)(k:Nat)(v1 of:ARat)(cmp:Int)(sam:Bool)(h1:Contract prg 43 [(lpv (lcell ARat.cells) [p,q,u,v,g])] .nilI)(h2:Contract prg 22 [(polyPV u),(polyPV p)] (.tup [(polyPV mul),.nilI]))(h3:Contract prg 22 [(polyPV v),(polyPV q)] (.tup [(polyPV mul2),.nilI]))(h4:Contract prg 82 [(polyPV mul),(polyPV mul2)] (.tup [(polyPV add),.nilI]))(h5:g.length≠0)(h6:InI64 ((g.length:Int)-1))(h7:((g.length:Int)-1)=(k:Int))(h8:g[k]? = some v1)(h9:Contract prg 29 [(vI 1)] of.pv)(h10:Contract prg 24 [v1.pv,of.pv] (vI cmp))(h11:cmp=0)(h12:Contract prg 83 [(polyPV add),(polyPV g)] (vB sam))(h13:sam=false):Contract prg 36 [(polyPV p),(polyPV q),(polyPV u),(polyPV v),(polyPV g)] (.tup [(vB false),.nilI]) :=
 Contract.ofL Tryz.func36 (by kernel_rfl) (L.done mixed tabOk (n:=168) (ns:=[3,1,1,1,1,1,1,1,1,1,1,1,1,3,1,1,1,1,1,1,1,1,1,1,1,1,1,1]) (tr:=[.reg [],.reg [.none,.none,.none,.none,.none,(.slc 0 0 (([p,q,u,v,g]:List (List ARat)).map (lcell ARat.cells))),(.pv .nilI)],.reg [],.auto,.reg [.none,.none,(.pv (.tup [(polyPV mul),.nilI]))],.reg [],.auto,.reg [.none,.none,(.pv (.tup [(polyPV mul2),.nilI]))],.reg [],.auto,.reg [.none,.none,(.pv (.tup [(polyPV add),.nilI]))],.reg [],.auto,dr 20 0 [.none,(iI (g.length:Int)),.none,.none,.none,.none,(iI (g.length:Int)),(iI ((g.length:Int)-1)),(.row k (ARat.cells v1)),.none,(.pv of.pv),(.pv (vI cmp)),.none,(.dec false),.none,.none,.none,(.pv (vB sam)),.none,(.dec false)],.dec true,.reg []]) (cj (o_bs (sz_l ARat.cells) ([p,q,u,v,g]:List (List ARat))) (cj h1 (cj h2 (cj h3 (cj h4 (cj (o_len ARat.cells g) (cj (deqN_f h5) (cj (deqN_f h5) (cj (deqN_f h5) (cj (o_len ARat.cells g) (cj (deqN_f h5) (cj (bs_sub h6) (cj (deqN_f h5) (cj (o_at ARat.cells h7 h8) (cj (deqN_f h5) (cj (deqN_f h5) (cj h9 (cj (deqN_f h5) (cj h10 (cj (deqN_f h5) (cj (deqN_f h5) (cj (dne_f h11) (cj (dne_f h11) (cj (dne_f h11) (cj h12 (cj (dne_f h11) (cj (dne_f h11) (cj (bnot_t h13) True.intro)))))))))))))))))))))))))))) (by kernel_rfl))
theorem e3(p q u v g mul mul2 add:List ARat)(k:Nat)(v1 of:ARat)(cmp:Int)(sam:Bool){r:PV}(h1:Contract prg 43 [(lpv (lcell ARat.cells) [p,q,u,v,g])] .nilI)(h2:Contract prg 22 [(polyPV u),(polyPV p)] (.tup [(polyPV mul),.nilI]))(h3:Contract prg 22 [(polyPV v),(polyPV q)] (.tup [(polyPV mul2),.nilI]))(h4:Contract prg 82 [(polyPV mul),(polyPV mul2)] (.tup [(polyPV add),.nilI]))(h5:g.length≠0)(h6:InI64 ((g.length:Int)-1))(h7:((g.length:Int)-1)=(k:Int))(h8:g[k]? = some v1)(h9:Contract prg 29 [(vI 1)] of.pv)(h10:Contract prg 24 [v1.pv,of.pv] (vI cmp))(h11:cmp=0)(h12:Contract prg 83 [(polyPV add),(polyPV g)] (vB sam))(h13:sam=true)(hL:Loop1 g 0 p q r):Contract prg 36 [(polyPV p),(polyPV q),(polyPV u),(polyPV v),(polyPV g)] r :=
 Contract.ofL Tryz.func36 (by kernel_rfl) (L.go mixed tabOk (n:=180) (ns:=[3,1,1,1,1,1,1,1,1,1,1,1,1,3,1,1,1,1,1,1,1,1,1,1,1,1,1,1]) (tr:=[.reg [],.reg [.none,.none,.none,.none,.none,(.slc 0 0 (([p,q,u,v,g]:List (List ARat)).map (lcell ARat.cells))),(.pv .nilI)],.reg [],.auto,.reg [.none,.none,(.pv (.tup [(polyPV mul),.nilI]))],.reg [],.auto,.reg [.none,.none,(.pv (.tup [(polyPV mul2),.nilI]))],.reg [],.auto,.reg [.none,.none,(.pv (.tup [(polyPV add),.nilI]))],.reg [],.auto,dr 20 0 [.none,(iI (g.length:Int)),.none,.none,.none,.none,(iI (g.length:Int)),(iI ((g.length:Int)-1)),(.row k (ARat.cells v1)),.none,(.pv of.pv),(.pv (vI cmp)),.none,(.dec false),.none,.none,.none,(.pv (vB sam)),.none,(.dec false)],.dec false,.reg [],.keep [4,81,82,83]]) (cj (o_bs (sz_l ARat.cells) ([p,q,u,v,g]:List (List ARat))) (cj h1 (cj h2 (cj h3 (cj h4 (cj (o_len ARat.cells g) (cj (deqN_f h5) (cj (deqN_f h5) (cj (deqN_f h5) (cj (o_len ARat.cells g) (cj (deqN_f h5) (cj (bs_sub h6) (cj (deqN_f h5) (cj (o_at ARat.cells h7 h8) (cj (deqN_f h5) (cj (deqN_f h5) (cj h9 (cj (deqN_f h5) (cj h10 (cj (deqN_f h5) (cj (deqN_f h5) (cj (dne_f h11) (cj (dne_f h11) (cj (dne_f h11) (cj h12 (cj (dne_f h11) (cj (dne_f h11) (cj (bnot_f h13) True.intro)))))))))))))))))))))))))))) (by kernel_rfl) hL)
theorem e7(p q u v g:List ARat)(che:Int)(h1:Contract prg 43 [(lpv (lcell ARat.cells) [p,q,u,v,g])] (.iface 61 (vI che))):Contract prg 36 [(polyPV p),(polyPV q),(polyPV u),(polyPV v),(polyPV g)] (.tup [(vB false),(.iface 61 (vI che))]) :=
 Contract.ofL Tryz.func36 (by kernel_rfl) (L.done mixed tabOk (n:=90) (ns:=[3,1]) (tr:=[.reg [],.reg [.none,.none,.none,.none,.none,(.slc 0 0 (([p,q,u,v,g]:List (List ARat)).map (lcell ARat.cells))),(.pv (.iface 61 (vI che)))],.reg [],.auto,.reg []]) (cj (o_bs (sz_l ARat.cells) ([p,q,u,v,g]:List (List ARat))) (cj h1 True.intro)) (by kernel_rfl))
theorem l10(g:List ARat)(t_83:Nat)(p q v div div1:List ARat)(h1:t_83<2)(h2:[p,q][t_83]? = some v)(h3:Contract prg 78 [(polyPV v),(polyPV g)] (.tup [(polyPV div),(polyPV div1),.nilI]))(h4:0<div1.length):Loop1 g t_83 p q (.tup [(vB false),.nilI]) :=
 L.done mixed tabOk (n:=231) (ns:=[1,2,1,1,1,1,1,1,1]) (tr:=[.auto,.reg [],.dec true,.reg [(.nat t_83),(.ev (.pv (polyPV v)))],.reg [.none,.none,(.pv (.tup [(polyPV div),(polyPV div1),.nilI]))],.reg [.none,.none,.none,.none,(iI (div1.length:Int))],.dec true,.reg []]) (cj (dltN_t h1) (cj (cj (Eq.refl (((t_83:Nat):Int):Int)) h1) (cj (o_get (enc:=(lcell ARat.cells)) (f:=fun a=>(polyPV a)) (fun _=>rfl) h2) (cj h3 (cj (Eq.refl false) (cj (Eq.refl false) (cj (o_len ARat.cells div1) (cj (Eq.refl false) (cj (dltN_t h4) True.intro))))))))) (by kernel_rfl)
theorem l11(g:List ARat)(t_83:Nat)(p q v div div1:List ARat){r:PV}(h1:t_83<2)(h2:[p,q][t_83]? = some v)(h3:Contract prg 78 [(polyPV v),(polyPV g)] (.tup [(polyPV div),(polyPV div1),.nilI]))(h4:div1.length≤0)(h5:(t_83+1)<9223372036854775808)(hL:Loop1 g (t_83+1) p q r):Loop1 g t_83 p q r :=
 L.go mixed tabOk (n:=234) (ns:=[1,2,1,1,1,1,1,1,1,1]) (tr:=[.auto,.reg [],.dec true,.reg [(.nat t_83),(.ev (.pv (polyPV v)))],.reg [.none,.none,(.pv (.tup [(polyPV div),(polyPV div1),.nilI]))],.reg [.none,.none,.none,.none,(iI (div1.length:Int))],.dec false,.reg [(iI (((t_83+1):Nat):Int))],.keep [4,81,82,83]]) (cj (dltN_t h1) (cj (cj (Eq.refl (((t_83:Nat):Int):Int)) h1) (cj (o_get (enc:=(lcell ARat.cells)) (f:=fun a=>(polyPV a)) (fun _=>rfl) h2) (cj h3 (cj (Eq.refl false) (cj (Eq.refl false) (cj (o_len ARat.cells div1) (cj (Eq.refl false) (cj (dltN_f h4) (cj (bs_addN h5) True.intro)))))))))) (by kernel_rfl) hL
theorem l13(g:List ARat)(t_83:Nat)(p q:List ARat)(h1:2≤t_83):Loop1 g t_83 p q (.tup [(vB true),.nilI]) :=
 L.done mixed tabOk (n:=213) (ns:=[1]) (tr:=[.auto,.reg [],.dec false,.reg []]) (cj (dltN_f h1) True.intro) (by kernel_rfl)
end resultant_Accepts
namespace resultant_same
@[reducible] noncomputable def fn:Func:=Tryz.f83
noncomputable def atK1:List Itm:=focus [0,2,0,0,2,1,2,0,0,2,0,0] [.code (bodyOf fn)]
def inv1(p q:List ARat)(t_13:Nat):St:=⟨[(0,(.pv (polyPV p))),(1,(.pv (polyPV q))),(12,(eI (p.length:Int))),(13,(eI (t_13:Int)))],[]⟩
@[reducible] noncomputable def Loop1(p q:List ARat)(t_13:Nat)(r:PV):Prop:=L prg fn atK1 (inv1 p q t_13) r
theorem e0(p q:List ARat)(h1:p.length≠q.length):Contract prg 83 [(polyPV p),(polyPV q)] (vB false) :=
 Contract.ofL Tryz.func83 (by kernel_rfl) (L.done mixed tabOk (n:=84) (ns:=[1,1,1]) (tr:=[.reg [],.reg [.none,(iI (p.length:Int)),.none,(iI (q.length:Int))],.dec true,.reg []]) (cj (o_len ARat.cells p) (cj (o_len ARat.cells q) (cj (dneN_t h1) True.intro))) (by kernel_rfl))
theorem e1(p q:List ARat){r:PV}(h1:p.length=q.length)(hL:Loop1 p q 0 r):Contract prg 83 [(polyPV p),(polyPV q)] r :=
 Contract.ofL Tryz.func83 (by kernel_rfl) (L.go mixed tabOk (n:=96) (ns:=[1,1,1,1]) (tr:=[.reg [],.reg [.none,(iI (p.length:Int)),.none,(iI (q.length:Int))],.dec false,.reg [.none,(iI (p.length:Int))],.keep [0,1,12,13]]) (cj (o_len ARat.cells p) (cj (o_len ARat.cells q) (cj (dneN_f h1) (cj (o_len ARat.cells p) True.intro)))) (by kernel_rfl) hL)
theorem l10(p q:List ARat)(t_13:Nat)(v v1:ARat)(cmp:Int)(h1:t_13<p.length)(h2:p[t_13]? = some v)(h3:q[t_13]? = some v1)(h4:Contract prg 24 [v.pv,v1.pv] (vI cmp))(h5:cmp≠0):Loop1 p q t_13 (vB false) :=
 L.done mixed tabOk (n:=141) (ns:=[1,3,3,1,1]) (tr:=[.auto,.reg [],.dec true,.reg [],dr 10 0 [.none,.none,(.row t_13 (ARat.cells v)),.none,.none,.none,(.row t_13 (ARat.cells v1)),.none,(.pv (vI cmp))],.dec true,.reg []]) (cj (dltN_t h1) (cj (o_at ARat.cells (Eq.refl (((t_13:Nat):Int):Int)) h2) (cj (o_at ARat.cells (Eq.refl (((t_13:Nat):Int):Int)) h3) (cj h4 (cj (dne_t h5) True.intro))))) (by kernel_rfl)
theorem l11(p q:List ARat)(t_13:Nat)(v v1:ARat)(cmp:Int){r:PV}(h1:t_13<p.length)(h2:p[t_13]? = some v)(h3:q[t_13]? = some v1)(h4:Contract prg 24 [v.pv,v1.pv] (vI cmp))(h5:cmp=0)(h6:(t_13+1)<9223372036854775808)(hL:Loop1 p q (t_13+1) r):Loop1 p q t_13 r :=
 L.go mixed tabOk (n:=144) (ns:=[1,3,3,1,1,1]) (tr:=[.auto,.reg [],.dec true,.reg [],dr 10 0 [.none,.none,(.row t_13 (ARat.cells v)),.none,.none,.none,(.row t_13 (ARat.cells v1)),.none,(.pv (vI cmp))],.dec false,.reg [(iI (((t_13+1):Nat):Int))],.keep [0,1,12,13]]) (cj (dltN_t h1) (cj (o_at ARat.cells (Eq.refl (((t_13:Nat):Int):Int)) h2) (cj (o_at ARat.cells (Eq.refl (((t_13:Nat):Int):Int)) h3) (cj h4 (cj (dne_f h5) (cj (bs_addN h6) True.intro)))))) (by kernel_rfl) hL
theorem l12(p q:List ARat)(t_13:Nat)(h1:p.length≤t_13):Loop1 p q t_13 (vB true) :=
 L.done mixed tabOk (n:=129) (ns:=[1]) (tr:=[.auto,.reg [],.dec false,.reg []]) (cj (dltN_f h1) True.intro) (by kernel_rfl)
end resultant_same
namespace linkworkref08_both
@[reducible] noncomputable def fn:Func:=Tryz.f50
noncomputable def atK1:List Itm:=focus [0,2,0,0,2,0,0] [.code (bodyOf fn)]
def inv1(l:List (List ARat))(t_8:Nat):St:=⟨[(6,(.pv (lpv (lcell ARat.cells) l))),(7,(eI (l.length:Int))),(8,(eI (t_8:Int)))],[]⟩
@[reducible] noncomputable def Loop1(l:List (List ARat))(t_8:Nat)(r:PV):Prop:=L prg fn atK1 (inv1 l t_8) r
theorem e0 (l : List (List ARat)) {r : PV}  (hL : Loop1 l 0 r) : Contract prg 50 [(lpv (lcell ARat.cells) l)] r :=
 Contract.ofL Tryz.func50 (by kernel_rfl) (L.go mixed tabOk (n:=81) (ns:=[1]) (tr:=[.reg [],.reg [.none,(iI (l.length:Int))],.keep [6,7,8]]) (cj (o_len (lcell ARat.cells) l) True.intro) (by kernel_rfl) hL)
theorem l10(l:List (List ARat))(t_8:Nat)(v:List ARat)(che:Int)(h1:t_8<l.length)(h2:l[t_8]? = some v)(h3:Contract prg 40 [(polyPV v)] (vI che))(h4:che≠0):Loop1 l t_8 (vI che) :=
 L.done mixed tabOk (n:=132) (ns:=[1,3,1,1]) (tr:=[.auto,.reg [],.dec true,.reg [(.row t_8 ((lcell ARat.cells) v))],.reg [.none,(.pv (vI che))],.reg [],.dec true,.reg []]) (cj (dltN_t h1) (cj (o_at (lcell ARat.cells) (Eq.refl (((t_8:Nat):Int):Int)) h2) (cj h3 (cj (dne_t h4) True.intro)))) (by kernel_rfl)
theorem l11(l:List (List ARat))(t_8:Nat)(v:List ARat)(che:Int){r:PV}(h1:t_8<l.length)(h2:l[t_8]? = some v)(h3:Contract prg 40 [(polyPV v)] (vI che))(h4:che=0)(h5:(t_8+1)<9223372036854775808)(hL:Loop1 l (t_8+1) r):Loop1 l t_8 r :=
 L.go mixed tabOk (n:=135) (ns:=[1,3,1,1,1]) (tr:=[.auto,.reg [],.dec true,.reg [(.row t_8 ((lcell ARat.cells) v))],.reg [.none,(.pv (vI che))],.reg [],.dec false,.reg [(iI (((t_8+1):Nat):Int))],.keep [6,7,8]]) (cj (dltN_t h1) (cj (o_at (lcell ARat.cells) (Eq.refl (((t_8:Nat):Int):Int)) h2) (cj h3 (cj (dne_f h4) (cj (bs_addN h5) True.intro))))) (by kernel_rfl) hL
theorem l12(l:List (List ARat))(t_8:Nat)(h1:l.length≤t_8):Loop1 l t_8 (vI 0) :=
 L.done mixed tabOk (n:=114) (ns:=[1]) (tr:=[.auto,.reg [],.dec false,.reg []]) (cj (dltN_f h1) True.intro) (by kernel_rfl)
end linkworkref08_both
namespace linkworkref08_less
@[reducible] noncomputable def fn:Func:=Tryz.f86
noncomputable def atK1:List Itm:=focus [0,2,0,2,0,2,0,2,0,0,2,0,0] [.code (bodyOf fn)]
def inv1(b a x:List ARat)(t_28:Nat)(site_22:List ARat):St:=⟨[(2,(.pv (polyPV b))),(8,(.row 22 0 (max a.length (x.length+b.length)) 3)),(26,(.pv (polyPV x))),(27,(eI (x.length:Int))),(28,(eI (t_28:Int)))],[(22,(.pure ((site_22:List ARat).map ARat.cells).flatten))]⟩
@[reducible] noncomputable def Loop1(b a x:List ARat)(t_28:Nat)(site_22:List ARat)(r:PV):Prop:=L prg fn atK1 (inv1 b a x t_28 site_22) r
noncomputable def atK2:List Itm:=focus [0,2,0,2,0,2,0,2,0,0,2,0,0,0,0,2,0,0,2,0,0,0,2,0,2,0,0] [.code (bodyOf fn)]
def inv2(b a x:List ARat)(i_9 t_28 t_35:Nat)(v:ARat)(site_22:List ARat):St:=⟨[(2,(.pv (polyPV b))),(8,(.row 22 0 (max a.length (x.length+b.length)) 3)),(9,(eI (i_9:Int))),(10,(.ptr 10 0)),(26,(.pv (polyPV x))),(27,(eI (x.length:Int))),(28,(eI (t_28:Int))),(33,(.pv (polyPV b))),(34,(eI (b.length:Int))),(35,(eI (t_35:Int)))],[(10,(.lit [(eB v.neg),(.pv (wordsPV v.num)),(.pv (wordsPV v.den))])),(22,(.pure ((site_22:List ARat).map ARat.cells).flatten))]⟩
@[reducible] noncomputable def Loop2(b a x:List ARat)(i_9 t_28 t_35:Nat)(v:ARat)(site_22:List ARat)(r:PV):Prop:=L prg fn atK2 (inv2 b a x i_9 t_28 t_35 v site_22) r
theorem e0(a x b:List ARat){r:PV}(h1:(x.length+b.length)<9223372036854775808)(h2:56*(max a.length (x.length+b.length))≤140737488355328)(h3:(min a.length (max a.length (x.length+b.length)))≤(List.replicate (max a.length (x.length+b.length)) (⟨false,[],[]⟩:ARat):List ARat).length)(hL:Loop1 b a x 0 (a.take (min a.length (max a.length (x.length+b.length)))++(List.replicate (max a.length (x.length+b.length)) (⟨false,[],[]⟩:ARat)).drop (min a.length (max a.length (x.length+b.length)))) r):Contract prg 86 [(polyPV a),(polyPV x),(polyPV b)] r :=
 Contract.ofL Tryz.func86 (by kernel_rfl) (L.go mixed tabOk (n:=99) (ns:=[1,1,1,1,1,5,4,1]) (tr:=[.reg [],.reg [.none,(iI (a.length:Int)),.none,(iI (x.length:Int)),.none,(iI (b.length:Int)),(iI (((x.length+b.length):Nat):Int)),(iI (((max a.length (x.length+b.length)):Nat):Int))],.reg [.none,(.app (max a.length (x.length+b.length)) ((List.replicate (max a.length (x.length+b.length)) (⟨false,[],[]⟩:ARat):List ARat).map ARat.cells).flatten)],.reg [.none,.none,(.app (min a.length (max a.length (x.length+b.length))) (((a.take (min a.length (max a.length (x.length+b.length)))++(List.replicate (max a.length (x.length+b.length)) (⟨false,[],[]⟩:ARat)).drop (min a.length (max a.length (x.length+b.length)))):List ARat).map ARat.cells).flatten)],.reg [.none,(iI (x.length:Int))],.keep [2,8,26,27,28]]) (cj (o_len ARat.cells a) (cj (o_len ARat.cells x) (cj (o_len ARat.cells b) (cj (bs_addN h1) (cj (o_maxN a.length (x.length+b.length)) (cj (o_mk ARat.cells (⟨false,[],[]⟩:ARat) 56 (max a.length (x.length+b.length)) (Eq.refl ((((max a.length (x.length+b.length)):Nat):Int):Int)) h2 rfl) (cj (o_cpL sz_ARat (List.replicate (max a.length (x.length+b.length)) (⟨false,[],[]⟩:ARat):List ARat) (a:List ARat) (Eq.refl (min a.length (max a.length (x.length+b.length)))) h3) (cj (o_len ARat.cells x) True.intro)))))))) (by kernel_rfl) hL)
theorem l10(b a x:List ARat)(t_28:Nat)(site_22:List ARat)(v:ARat){r:PV}(h1:t_28<x.length)(h2:x[t_28]? = some v)(hL:Loop2 b a x t_28 t_28 0 v site_22 r):Loop1 b a x t_28 site_22 r :=
 L.go mixed tabOk (n:=141) (ns:=[1,3,1]) (tr:=[.auto,.reg [],.dec true,.reg [.none,(.row t_28 (ARat.cells v))],.reg [.none,(iI (b.length:Int))],.keep [2,8,9,10,26,27,28,33,34,35]]) (cj (dltN_t h1) (cj (o_at ARat.cells (Eq.refl (((t_28:Nat):Int):Int)) h2) (cj (o_len ARat.cells b) True.intro))) (by kernel_rfl) hL
theorem l11(b a x:List ARat)(t_28:Nat)(site_22 tri:List ARat)(h1:x.length≤t_28)(h2:(max a.length (x.length+b.length))=site_22.length)(h3:Contract prg 123 [(polyPV site_22)] (polyPV tri)):Loop1 b a x t_28 site_22 (polyPV tri) :=
 L.done mixed tabOk (n:=132) (ns:=[1,3,1]) (tr:=[.auto,.reg [],.dec false,.frzT 8 ((site_22:List ARat).map ARat.cells),.reg [.none,(.pv (polyPV tri))]]) (cj (dltN_f h1) (cj (o_frz sz_ARat (site_22:List ARat) h2) (cj h3 True.intro))) (by kernel_rfl)
theorem l20(b a x:List ARat)(i_9 t_28 t_35:Nat)(v:ARat)(site_22:List ARat)(v1 v2 mul sub:ARat){r:PV}(h1:t_35<b.length)(h2:b[t_35]? = some v1)(h3:(i_9+t_35)<9223372036854775808)(h4:(i_9+t_35)<(max a.length (x.length+b.length)))(h5:site_22[(i_9+t_35)]? = some v2)(h6:Contract prg 97 [v.pv,v1.pv] mul.pv)(h7:Contract prg 98 [v2.pv,mul.pv] sub.pv)(h8:(i_9+t_35)<site_22.length)(h9:(t_35+1)<9223372036854775808)(hL:Loop2 b a x i_9 t_28 (t_35+1) v (site_22.set (i_9+t_35) sub) r):Loop2 b a x i_9 t_28 t_35 v site_22 r :=
 L.go mixed tabOk (n:=180) (ns:=[1,3,1,1,2,2,1,1,2,2,1]) (tr:=[.auto,.reg [],.dec true,.reg [.none,(.row t_35 (ARat.cells v1))],dr 15 1 [.none,.none,.none,(iI (((i_9+t_35):Nat):Int)),.none,.none,.none,(iI (((i_9+t_35):Nat):Int)),(.nat (i_9+t_35)),(.seg [(vB v2.neg),(wordsPV v2.num),(wordsPV v2.den)]),.none,.none,(.pv mul.pv),(.pv sub.pv),(.nat (i_9+t_35)),(.cells (.pure (((site_22.set (i_9+t_35) sub):List ARat).map ARat.cells).flatten))],.reg [(iI (((t_35+1):Nat):Int))],.keep [2,8,9,10,26,27,28,33,34,35],.drop [12]]) (cj (dltN_t h1) (cj (o_at ARat.cells (Eq.refl (((t_35:Nat):Int):Int)) h2) (cj (bs_addN h3) (cj (bs_addN h3) (cj (cj (Eq.refl ((((i_9+t_35):Nat):Int):Int)) h4) (cj (o_seg sz_ARat h5) (cj h6 (cj h7 (cj (cj (Eq.refl ((((i_9+t_35):Nat):Int):Int)) h4) (cj (o_set sz_ARat (site_22:List ARat) sub h8) (cj (bs_addN h9) True.intro))))))))))) (by kernel_rfl) hL
theorem l21(b a x:List ARat)(i_9 t_28 t_35:Nat)(v:ARat)(site_22:List ARat){r:PV}(h1:b.length≤t_35)(h2:(t_28+1)<9223372036854775808)(hL:Loop1 b a x (t_28+1) site_22 r):Loop2 b a x i_9 t_28 t_35 v site_22 r :=
 L.go mixed tabOk (n:=174) (ns:=[1,1]) (tr:=[.auto,.reg [],.dec false,.reg [(iI (((t_28+1):Nat):Int))],.keep [2,8,26,27,28],.drop [10]]) (cj (dltN_f h1) (cj (bs_addN h2) True.intro)) (by kernel_rfl) hL
end linkworkref08_less
namespace linkworkref08_quotient
@[reducible] noncomputable def fn:Func:=Tryz.f88
noncomputable def atK1:List Itm:=focus [0,2,0,0,2,1,2,0,2,0,2,0,0,2,0,0] [.code (bodyOf fn)]
def inv1(q:List ARat)(len_17 m:Nat)(i_7:Int)(site_17 site_24:List ARat):St:=⟨[(1,(.pv (polyPV q))),(5,(.row 17 0 len_17 3)),(6,(.row 24 0 m 3)),(7,(eI i_7))],[(17,(.pure ((site_17:List ARat).map ARat.cells).flatten)),(24,(.pure ((site_24:List ARat).map ARat.cells).flatten))]⟩
@[reducible] noncomputable def Loop1(q:List ARat)(len_17 m:Nat)(i_7:Int)(site_17 site_24:List ARat)(r:PV):Prop:=L prg fn atK1 (inv1 q len_17 m i_7 site_17 site_24) r
noncomputable def atK2:List Itm:=focus [0,2,0,0,2,1,2,0,2,0,2,0,0,2,0,0,0,0,0,2,0,2,0,0,0,2,0,2,0,0] [.code (bodyOf fn)]
def inv2(q:List ARat)(len_17 m:Nat)(i_7:Int)(t_55:Nat)(site_17 site_24:List ARat):St:=⟨[(1,(.pv (polyPV q))),(5,(.row 17 0 len_17 3)),(6,(.row 24 0 m 3)),(7,(eI i_7)),(53,(.pv (polyPV q))),(54,(eI (q.length:Int))),(55,(eI (t_55:Int)))],[(17,(.pure ((site_17:List ARat).map ARat.cells).flatten)),(24,(.pure ((site_24:List ARat).map ARat.cells).flatten))]⟩
@[reducible] noncomputable def Loop2(q:List ARat)(len_17 m:Nat)(i_7:Int)(t_55:Nat)(site_17 site_24:List ARat)(r:PV):Prop:=L prg fn atK2 (inv2 q len_17 m i_7 t_55 site_17 site_24) r
theorem e0(a q:List ARat)(h1:a.length<q.length):Contract prg 88 [(polyPV a),(polyPV q)] (polyPV []) :=
 Contract.ofL Tryz.func88 (by kernel_rfl) (L.done mixed tabOk (n:=84) (ns:=[1,1,1]) (tr:=[.reg [],.reg [.none,(iI (a.length:Int)),.none,(iI (q.length:Int))],.dec true,.reg []]) (cj (o_len ARat.cells a) (cj (o_len ARat.cells q) (cj (dltN_t h1) True.intro))) (by kernel_rfl))
theorem e1(a q:List ARat)(m:Nat){r:PV}(h1:q.length≤a.length)(h2:(([]:List ARat)++a:List ARat).length*56≤140737488355328)(h3:InI64 ((a.length:Int)-(q.length:Int)))(h4:InI64 (((a.length:Int)-(q.length:Int))+1))(h5:(((a.length:Int)-(q.length:Int))+1)=(m:Int))(h6:56*m≤140737488355328)(h7:InI64 ((m:Int)-1))(hL:Loop1 q a.length m ((m:Int)-1) a (List.replicate m (⟨false,[],[]⟩:ARat)) r):Contract prg 88 [(polyPV a),(polyPV q)] r :=
 Contract.ofL Tryz.func88 (by kernel_rfl) (L.go mixed tabOk (n:=108) (ns:=[1,1,1,6,1,1,1,5,1]) (tr:=[.reg [],.reg [.none,(iI (a.length:Int)),.none,(iI (q.length:Int))],.dec false,.reg [.none,.none,(.app (a:List ARat).length ((a:List ARat).map ARat.cells).flatten)],.reg [.none,.none,.none,(iI (q.length:Int)),(iI ((a.length:Int)-(q.length:Int))),(iI (((a.length:Int)-(q.length:Int))+1)),(.app m ((List.replicate m (⟨false,[],[]⟩:ARat):List ARat).map ARat.cells).flatten)],.reg [.none,.none,(iI ((m:Int)-1))],.keep [1,5,6,7],.ord [17,24]]) (cj (o_len ARat.cells a) (cj (o_len ARat.cells q) (cj (dltN_f h1) (cj (o_appL sz_ARat ([]:List ARat) (a:List ARat) 56 (Eq.refl ([]:List ARat).length) h2 rfl) (cj (o_len ARat.cells q) (cj (bs_sub h3) (cj (bs_add h4) (cj (o_mk ARat.cells (⟨false,[],[]⟩:ARat) 56 m h5 h6 rfl) (cj (bs_sub h7) True.intro))))))))) (by kernel_rfl) hL)
theorem l10(q:List ARat)(len_17 m:Nat)(i_7:Int)(site_17 site_24:List ARat)(k:Nat)(v:ARat)(k1:Nat)(v1 div:ARat)(div1:Int)(k2:Nat){r:PV}(h1:0≤i_7)(h2:InI64 (i_7+(q.length:Int)))(h3:InI64 ((i_7+(q.length:Int))-1))(h4:((i_7+(q.length:Int))-1)=(k:Int))(h5:k<len_17)(h6:site_17[k]? = some v)(h7:InI64 ((q.length:Int)-1))(h8:((q.length:Int)-1)=(k1:Int))(h9:q[k1]? = some v1)(h10:Contract prg 54 [v.pv,v1.pv] (.tup [div.pv,(vI div1)]))(h11:i_7=(k2:Int))(h12:k2<m)(h13:k2<site_24.length)(hL:Loop2 q len_17 m i_7 0 site_17 (site_24.set k2 div) r):Loop1 q len_17 m i_7 site_17 site_24 r :=
 L.go mixed tabOk (n:=150) (ns:=[1,1,1,1,2,2,1,1,3,1,2,2,1]) (tr:=[.auto,.reg [],.dec true,dr 22 0 [.none,.none,.none,.none,.none,(iI (q.length:Int)),(iI (i_7+(q.length:Int))),(iI ((i_7+(q.length:Int))-1)),(.nat k),(.seg [(vB v.neg),(wordsPV v.num),(wordsPV v.den)]),.none,.none,(iI (q.length:Int)),(iI ((q.length:Int)-1)),(.row k1 (ARat.cells v1)),.none,(.pv (.tup [div.pv,(vI div1)])),.none,.none,.none,(.nat k2),(.cells (.pure (((site_24.set k2 div):List ARat).map ARat.cells).flatten))],.reg [.none,(iI (q.length:Int))],.keep [1,5,6,7,53,54,55]]) (cj (dle_t h1) (cj (o_len ARat.cells q) (cj (bs_add h2) (cj (bs_sub h3) (cj (cj h4 h5) (cj (o_seg sz_ARat h6) (cj (o_len ARat.cells q) (cj (bs_sub h7) (cj (o_at ARat.cells h8 h9) (cj h10 (cj (cj h11 h12) (cj (o_set sz_ARat (site_24:List ARat) div h13) (cj (o_len ARat.cells q) True.intro))))))))))))) (by kernel_rfl) hL
theorem l11(q:List ARat)(len_17 m:Nat)(i_7:Int)(site_17 site_24 tri:List ARat)(h1:i_7<0)(h2:m=site_24.length)(h3:Contract prg 123 [(polyPV site_24)] (polyPV tri)):Loop1 q len_17 m i_7 site_17 site_24 (polyPV tri) :=
 L.done mixed tabOk (n:=141) (ns:=[1,3,1]) (tr:=[.auto,.reg [],.dec false,.frzT 6 ((site_24:List ARat).map ARat.cells),.reg [.none,(.pv (polyPV tri))]]) (cj (dle_f h1) (cj (o_frz sz_ARat (site_24:List ARat) h2) (cj h3 True.intro))) (by kernel_rfl)
theorem l20(q:List ARat)(len_17 m:Nat)(i_7:Int)(t_55:Nat)(site_17 site_24:List ARat)(v:ARat)(k:Nat)(v1:ARat)(k1:Nat)(v2 mul sub:ARat)(k2:Nat){r:PV}(h1:t_55<q.length)(h2:q[t_55]? = some v)(h3:InI64 (i_7+(t_55:Int)))(h4:(i_7+(t_55:Int))=(k:Int))(h5:k<len_17)(h6:site_17[k]? = some v1)(h7:i_7=(k1:Int))(h8:k1<m)(h9:site_24[k1]? = some v2)(h10:Contract prg 97 [v2.pv,v.pv] mul.pv)(h11:Contract prg 98 [v1.pv,mul.pv] sub.pv)(h12:(i_7+(t_55:Int))=(k2:Int))(h13:k2<len_17)(h14:k2<site_17.length)(h15:(t_55+1)<9223372036854775808)(hL:Loop2 q len_17 m i_7 (t_55+1) (site_17.set k2 sub) site_24 r):Loop2 q len_17 m i_7 t_55 site_17 site_24 r :=
 L.go mixed tabOk (n:=189) (ns:=[1,3,1,1,2,2,2,2,1,1,2,2,1]) (tr:=[.auto,.reg [],.dec true,.reg [.none,(.row t_55 (ARat.cells v))],dr 18 1 [.none,.none,.none,(iI (i_7+(t_55:Int))),.none,.none,.none,(iI (i_7+(t_55:Int))),(.nat k),(.seg [(vB v1.neg),(wordsPV v1.num),(wordsPV v1.den)]),.none,.none,(.nat k1),(.seg [(vB v2.neg),(wordsPV v2.num),(wordsPV v2.den)]),.none,(.pv mul.pv),(.pv sub.pv),(.nat k2),(.cells (.pure (((site_17.set k2 sub):List ARat).map ARat.cells).flatten))],.reg [(iI (((t_55+1):Nat):Int))],.keep [1,5,6,7,53,54,55],.drop [9]]) (cj (dltN_t h1) (cj (o_at ARat.cells (Eq.refl (((t_55:Nat):Int):Int)) h2) (cj (bs_add h3) (cj (bs_add h3) (cj (cj h4 h5) (cj (o_seg sz_ARat h6) (cj (cj h7 h8) (cj (o_seg sz_ARat h9) (cj h10 (cj h11 (cj (cj h12 h13) (cj (o_set sz_ARat (site_17:List ARat) sub h14) (cj (bs_addN h15) True.intro))))))))))))) (by kernel_rfl) hL
theorem l21(q:List ARat)(len_17 m:Nat)(i_7:Int)(t_55:Nat)(site_17 site_24:List ARat){r:PV}(h1:q.length≤t_55)(h2:InI64 (i_7-1))(hL:Loop1 q len_17 m (i_7-1) site_17 site_24 r):Loop2 q len_17 m i_7 t_55 site_17 site_24 r :=
 L.go mixed tabOk (n:=183) (ns:=[1,1]) (tr:=[.auto,.reg [],.dec false,.reg [.none,(iI (i_7-1))],.keep [1,5,6,7]]) (cj (dltN_f h1) (cj (bs_sub h2) True.intro)) (by kernel_rfl) hL
end linkworkref08_quotient
namespace linkworkref08_Bezout
@[reducible] noncomputable def fn:Func:=Tryz.f37
noncomputable def atK1:List Itm:=focus [0,2,0,0,2,0,2,1,2,0,0,2,1,2,0,2,0,0,2,1,2,0,2,0,2,0,0,0] [.code (bodyOf fn)]
def inv1(p q gcd r_13 s_14 u_15 w_16:List ARat):St:=⟨[(0,(.pv (polyPV p))),(1,(.pv (polyPV q))),(9,(.pv (polyPV gcd))),(13,(.pv (polyPV r_13))),(14,(.pv (polyPV s_14))),(15,(.pv (polyPV u_15))),(16,(.pv (polyPV w_16)))],[]⟩
@[reducible] noncomputable def Loop1(p q gcd r_13 s_14 u_15 w_16:List ARat)(r:PV):Prop:=L prg fn atK1 (inv1 p q gcd r_13 s_14 u_15 w_16) r
theorem e0(p q:List ARat)(bot:Int)(h1:Contract prg 50 [(lpv (lcell ARat.cells) [p,q])] (vI bot))(h2:bot≠0):Contract prg 37 [(polyPV p),(polyPV q)] (.tup [(polyPV []),(polyPV []),(polyPV []),(vI bot)]) :=
 Contract.ofL Tryz.func37 (by kernel_rfl) (L.done mixed tabOk (n:=90) (ns:=[3,1,1]) (tr:=[.reg [],.reg [.none,.none,(.slc 0 0 (([p,q]:List (List ARat)).map (lcell ARat.cells))),(.pv (vI bot))],.reg [],.dec true,.reg []]) (cj (o_bs (sz_l ARat.cells) ([p,q]:List (List ARat))) (cj h1 (cj (dne_t h2) True.intro))) (by kernel_rfl))
theorem e1(p q:List ARat)(bot:Int)(h1:Contract prg 50 [(lpv (lcell ARat.cells) [p,q])] (vI bot))(h2:bot=0)(h3:p.length=0)(h4:q.length=0):Contract prg 37 [(polyPV p),(polyPV q)] (.tup [(polyPV []),(polyPV []),(polyPV []),(vI 8)]) :=
 Contract.ofL Tryz.func37 (by kernel_rfl) (L.done mixed tabOk (n:=105) (ns:=[3,1,1,1,1,1,1,1,1,1]) (tr:=[.reg [],.reg [.none,.none,(.slc 0 0 (([p,q]:List (List ARat)).map (lcell ARat.cells))),(.pv (vI bot))],.reg [],.dec false,.reg [.none,(iI (p.length:Int)),.none,.none,.none,(iI (q.length:Int)),.none,(.dec true)],.dec true,.reg []]) (cj (o_bs (sz_l ARat.cells) ([p,q]:List (List ARat))) (cj h1 (cj (dne_f h2) (cj (o_len ARat.cells p) (cj (deqN_t h3) (cj (deqN_t h3) (cj (o_len ARat.cells q) (cj (deqN_t h3) (cj (deqN_t h3) (cj (deqN_t h4) True.intro)))))))))) (by kernel_rfl))
theorem e2(p q:List ARat)(bot:Int)(gcd:List ARat)(gcd1:Int)(of:ARat){r:PV}(h1:Contract prg 50 [(lpv (lcell ARat.cells) [p,q])] (vI bot))(h2:bot=0)(h3:p.length=0)(h4:q.length≠0)(h5:Contract prg 84 [(polyPV p),(polyPV q)] (.tup [(polyPV gcd),(vI gcd1)]))(h6:Contract prg 27 [(vI 1)] of.pv)(hL:Loop1 p q gcd p q [of] [] r):Contract prg 37 [(polyPV p),(polyPV q)] r :=
 Contract.ofL Tryz.func37 (by kernel_rfl) (L.go mixed tabOk (n:=144) (ns:=[3,1,1,1,1,1,1,1,1,1,1,1,1,1,3]) (tr:=[.reg [],.reg [.none,.none,(.slc 0 0 (([p,q]:List (List ARat)).map (lcell ARat.cells))),(.pv (vI bot))],.reg [],.dec false,.reg [.none,(iI (p.length:Int)),.none,.none,.none,(iI (q.length:Int)),.none,(.dec true)],.dec false,.reg [.none,.none,(.pv (.tup [(polyPV gcd),(vI gcd1)]))],.reg [.none,(iI (q.length:Int))],.dec false,.reg [],.reg [(.pv of.pv)],.frzT 15 (([of]:List ARat).map ARat.cells),.keep [0,1,9,13,14,15,16]]) (cj (o_bs (sz_l ARat.cells) ([p,q]:List (List ARat))) (cj h1 (cj (dne_f h2) (cj (o_len ARat.cells p) (cj (deqN_t h3) (cj (deqN_t h3) (cj (o_len ARat.cells q) (cj (deqN_t h3) (cj (deqN_t h3) (cj (deqN_f h4) (cj h5 (cj (o_len ARat.cells q) (cj (deqN_f h4) (cj h6 (cj (o_frz sz_ARat ([of]:List ARat) (Eq.refl ([of]:List ARat).length)) True.intro))))))))))))))) (by kernel_rfl) hL)
theorem e3(p q:List ARat)(bot:Int)(gcd:List ARat)(gcd1:Int)(of:ARat)(k:Nat)(v div:ARat)(div1:Int)(h1:Contract prg 50 [(lpv (lcell ARat.cells) [p,q])] (vI bot))(h2:bot=0)(h3:p.length≠0)(h4:Contract prg 84 [(polyPV p),(polyPV q)] (.tup [(polyPV gcd),(vI gcd1)]))(h5:q.length=0)(h6:Contract prg 27 [(vI 1)] of.pv)(h7:InI64 ((p.length:Int)-1))(h8:((p.length:Int)-1)=(k:Int))(h9:p[k]? = some v)(h10:Contract prg 54 [of.pv,v.pv] (.tup [div.pv,(vI div1)])):Contract prg 37 [(polyPV p),(polyPV q)] (.tup [(polyPV [div]),(polyPV []),(polyPV gcd),(vI 0)]) :=
 Contract.ofL Tryz.func37 (by kernel_rfl) (L.done mixed tabOk (n:=132) (ns:=[3,1,1,1,1,1,1,1,1,1,1,1,1,1,3,1,3]) (tr:=[.reg [],.reg [.none,.none,(.slc 0 0 (([p,q]:List (List ARat)).map (lcell ARat.cells))),(.pv (vI bot))],.reg [],.dec false,.reg [.none,(iI (p.length:Int)),.none,.none,.skip,.skip,.skip,(.dec false)],.auto,.reg [.none,.none,(.pv (.tup [(polyPV gcd),(vI gcd1)]))],.reg [.none,(iI (q.length:Int))],.dec true,dr 13 1 [(.pv of.pv),.none,.none,(iI (p.length:Int)),(iI ((p.length:Int)-1)),(.row k (ARat.cells v)),.none,(.pv (.tup [div.pv,(vI div1)]))],.reg [],.frzT 4 (([div]:List ARat).map ARat.cells)]) (cj (o_bs (sz_l ARat.cells) ([p,q]:List (List ARat))) (cj h1 (cj (dne_f h2) (cj (o_len ARat.cells p) (cj (deqN_f h3) (cj (deqN_f h3) (cj (deqN_f h3) (cj (deqN_f h3) (cj h4 (cj (o_len ARat.cells q) (cj (deqN_t h5) (cj h6 (cj (o_len ARat.cells p) (cj (bs_sub h7) (cj (o_at ARat.cells h8 h9) (cj h10 (cj (o_frz sz_ARat ([div]:List ARat) (Eq.refl ([div]:List ARat).length)) True.intro))))))))))))))))) (by kernel_rfl))
theorem e4(p q:List ARat)(bot:Int)(gcd:List ARat)(gcd1:Int)(of:ARat){r:PV}(h1:Contract prg 50 [(lpv (lcell ARat.cells) [p,q])] (vI bot))(h2:bot=0)(h3:p.length≠0)(h4:Contract prg 84 [(polyPV p),(polyPV q)] (.tup [(polyPV gcd),(vI gcd1)]))(h5:q.length≠0)(h6:Contract prg 27 [(vI 1)] of.pv)(hL:Loop1 p q gcd p q [of] [] r):Contract prg 37 [(polyPV p),(polyPV q)] r :=
 Contract.ofL Tryz.func37 (by kernel_rfl) (L.go mixed tabOk (n:=144) (ns:=[3,1,1,1,1,1,1,1,1,1,1,1,3]) (tr:=[.reg [],.reg [.none,.none,(.slc 0 0 (([p,q]:List (List ARat)).map (lcell ARat.cells))),(.pv (vI bot))],.reg [],.dec false,.reg [.none,(iI (p.length:Int)),.none,.none,.skip,.skip,.skip,(.dec false)],.auto,.reg [.none,.none,(.pv (.tup [(polyPV gcd),(vI gcd1)]))],.reg [.none,(iI (q.length:Int))],.dec false,.reg [],.reg [(.pv of.pv)],.frzT 15 (([of]:List ARat).map ARat.cells),.keep [0,1,9,13,14,15,16]]) (cj (o_bs (sz_l ARat.cells) ([p,q]:List (List ARat))) (cj h1 (cj (dne_f h2) (cj (o_len ARat.cells p) (cj (deqN_f h3) (cj (deqN_f h3) (cj (deqN_f h3) (cj (deqN_f h3) (cj h4 (cj (o_len ARat.cells q) (cj (deqN_f h5) (cj h6 (cj (o_frz sz_ARat ([of]:List ARat) (Eq.refl ([of]:List ARat).length)) True.intro))))))))))))) (by kernel_rfl) hL)
theorem l10(p q gcd r_13 s_14 u_15 w_16 div div1:List ARat)(div2:Int)(les:List ARat){r:PV}(h1:0<s_14.length)(h2:Contract prg 85 [(polyPV r_13),(polyPV s_14)] (.tup [(polyPV div),(polyPV div1),(vI div2)]))(h3:Contract prg 86 [(polyPV u_15),(polyPV div),(polyPV w_16)] (polyPV les))(hL:Loop1 p q gcd s_14 div1 w_16 les r):Loop1 p q gcd r_13 s_14 u_15 w_16 r :=
 L.go mixed tabOk (n:=189) (ns:=[1,1,1,1]) (tr:=[.auto,.reg [.none,(iI (s_14.length:Int))],.dec true,.reg [.none,.none,(.pv (.tup [(polyPV div),(polyPV div1),(vI div2)]))],.reg [.none,.none,.none,(.pv (polyPV les))],.reg [],.reg [],.keep [0,1,9,13,14,15,16]]) (cj (o_len ARat.cells s_14) (cj (dltN_t h1) (cj h2 (cj h3 True.intro)))) (by kernel_rfl) hL
theorem l11(p q gcd r_13 s_14 u_15 w_16:List ARat)(of:ARat)(k:Nat)(v div:ARat)(div1:Int)(sca:List ARat)(sca1:Int)(div2 div3:List ARat)(div4:Int)(div5 div6:List ARat)(div7:Int)(les quo:List ARat)(h1:s_14.length≤0)(h2:Contract prg 27 [(vI 1)] of.pv)(h3:InI64 ((r_13.length:Int)-1))(h4:((r_13.length:Int)-1)=(k:Int))(h5:r_13[k]? = some v)(h6:Contract prg 54 [of.pv,v.pv] (.tup [div.pv,(vI div1)]))(h7:Contract prg 87 [(polyPV u_15),div.pv] (.tup [(polyPV sca),(vI sca1)]))(h8:Contract prg 85 [(polyPV q),(polyPV gcd)] (.tup [(polyPV div2),(polyPV div3),(vI div4)]))(h9:Contract prg 85 [(polyPV sca),(polyPV div2)] (.tup [(polyPV div5),(polyPV div6),(vI div7)]))(h10:Contract prg 86 [(polyPV gcd),(polyPV div6),(polyPV p)] (polyPV les))(h11:Contract prg 88 [(polyPV les),(polyPV q)] (polyPV quo)):Loop1 p q gcd r_13 s_14 u_15 w_16 (.tup [(polyPV div6),(polyPV quo),(polyPV gcd),(vI 0)]) :=
 L.done mixed tabOk (n:=201) (ns:=[1,1,1,1,1,3,1,1,1,1,1,1]) (tr:=[.auto,.reg [.none,(iI (s_14.length:Int))],.dec false,dr 13 1 [(.pv of.pv),.none,.none,(iI (r_13.length:Int)),(iI ((r_13.length:Int)-1)),(.row k (ARat.cells v)),.none,(.pv (.tup [div.pv,(vI div1)]))],.reg [.none,.none,(.pv (.tup [(polyPV sca),(vI sca1)]))],.reg [.none,.none,(.pv (.tup [(polyPV div2),(polyPV div3),(vI div4)]))],.reg [.none,.none,(.pv (.tup [(polyPV div5),(polyPV div6),(vI div7)]))],.reg [.none,.none,.none,.none,(.pv (polyPV les)),.none,(.pv (polyPV quo))]]) (cj (o_len ARat.cells s_14) (cj (dltN_f h1) (cj h2 (cj (o_len ARat.cells r_13) (cj (bs_sub h3) (cj (o_at ARat.cells h4 h5) (cj h6 (cj h7 (cj h8 (cj h9 (cj h10 (cj h11 True.intro)))))))))))) (by kernel_rfl)
end linkworkref08_Bezout
namespace linkworkref08_Accepts
theorem e0(p q u v g:List ARat)(bot:Int)(h1:Contract prg 50 [(lpv (lcell ARat.cells) [p,q,u,v,g])] (vI bot))(h2:bot≠0):Contract prg 38 [(polyPV p),(polyPV q),(polyPV u),(polyPV v),(polyPV g)] (.tup [(vB false),(vI bot)]) :=
 Contract.ofL Tryz.func38 (by kernel_rfl) (L.done mixed tabOk (n:=90) (ns:=[3,1,1]) (tr:=[.reg [],.reg [.none,.none,.none,.none,.none,(.slc 0 0 (([p,q,u,v,g]:List (List ARat)).map (lcell ARat.cells))),(.pv (vI bot))],.reg [],.dec true,.reg []]) (cj (o_bs (sz_l ARat.cells) ([p,q,u,v,g]:List (List ARat))) (cj h1 (cj (dne_t h2) True.intro))) (by kernel_rfl))
theorem e3(p q u v g:List ARat)(bot:Int)(mul:List ARat)(mul1:Int)(mul2:List ARat)(mul3:Int)(add:List ARat)(add1:Int)(h1:Contract prg 50 [(lpv (lcell ARat.cells) [p,q,u,v,g])] (vI bot))(h2:bot=0)(h3:Contract prg 89 [(polyPV u),(polyPV p)] (.tup [(polyPV mul),(vI mul1)]))(h4:mul1=0)(h5:Contract prg 89 [(polyPV v),(polyPV q)] (.tup [(polyPV mul2),(vI mul3)]))(h6:mul3=0)(h7:Contract prg 90 [(polyPV mul),(polyPV mul2)] (.tup [(polyPV add),(vI add1)]))(h8:g.length=0):Contract prg 38 [(polyPV p),(polyPV q),(polyPV u),(polyPV v),(polyPV g)] (.tup [(vB false),(vI 0)]) :=
 Contract.ofL Tryz.func38 (by kernel_rfl) (L.done mixed tabOk (n:=153) (ns:=[3,1,1,1,1,1,1,1,1,1,1,1,1,1,1,1,1,1,1,1,1,1,1]) (tr:=[.reg [],.reg [.none,.none,.none,.none,.none,(.slc 0 0 (([p,q,u,v,g]:List (List ARat)).map (lcell ARat.cells))),(.pv (vI bot))],.reg [],.dec false,.reg [.none,.none,(.pv (.tup [(polyPV mul),(vI mul1)]))],.reg [],.dec false,.reg [.none,.none,(.pv (.tup [(polyPV mul2),(vI mul3)]))],.reg [],.dec false,.reg [.none,.none,(.pv (.tup [(polyPV add),(vI add1)]))],dr 20 0 [.none,(iI (g.length:Int)),.none,.none,.skip,.skip,.skip,.skip,.skip,.skip,.skip,.skip,.skip,(.dec true),.none,.skip,.skip,.skip,.skip],.auto,.reg []]) (cj (o_bs (sz_l ARat.cells) ([p,q,u,v,g]:List (List ARat))) (cj h1 (cj (dne_f h2) (cj h3 (cj (dne_f h4) (cj h5 (cj (dne_f h6) (cj h7 (cj (o_len ARat.cells g) (cj (deqN_t h8) (cj (deqN_t h8) (cj (deqN_t h8) (cj (deqN_t h8) (cj (deqN_t h8) (cj (deqN_t h8) (cj (deqN_t h8) (cj (deqN_t h8) (cj (deqN_t h8) (cj (deqN_t h8) (cj (Eq.refl true) (cj (Eq.refl true) (cj (Eq.refl true) (cj (Eq.refl true) True.intro))))))))))))))))))))))) (by kernel_rfl))
theorem e4(p q u v g:List ARat)(bot:Int)(mul:List ARat)(mul1:Int)(mul2:List ARat)(mul3:Int)(add:List ARat)(add1:Int)(k:Nat)(v1 of:ARat)(cmp:Int)(h1:Contract prg 50 [(lpv (lcell ARat.cells) [p,q,u,v,g])] (vI bot))(h2:bot=0)(h3:Contract prg 89 [(polyPV u),(polyPV p)] (.tup [(polyPV mul),(vI mul1)]))(h4:mul1=0)(h5:Contract prg 89 [(polyPV v),(polyPV q)] (.tup [(polyPV mul2),(vI mul3)]))(h6:mul3=0)(h7:Contract prg 90 [(polyPV mul),(polyPV mul2)] (.tup [(polyPV add),(vI add1)]))(h8:g.length≠0)(h9:InI64 ((g.length:Int)-1))(h10:((g.length:Int)-1)=(k:Int))(h11:g[k]? = some v1)(h12:Contract prg 27 [(vI 1)] of.pv)(h13:Contract prg 91 [v1.pv,of.pv] (vI cmp))(h14:cmp≠0):Contract prg 38 [(polyPV p),(polyPV q),(polyPV u),(polyPV v),(polyPV g)] (.tup [(vB false),(vI 0)]) :=
 Contract.ofL Tryz.func38 (by kernel_rfl) (L.done mixed tabOk (n:=153) (ns:=[3,1,1,1,1,1,1,1,1,1,1,1,1,1,1,1,3,1,1,1,1,1,1,1,1,1,1,1,1]) (tr:=[.reg [],.reg [.none,.none,.none,.none,.none,(.slc 0 0 (([p,q,u,v,g]:List (List ARat)).map (lcell ARat.cells))),(.pv (vI bot))],.reg [],.dec false,.reg [.none,.none,(.pv (.tup [(polyPV mul),(vI mul1)]))],.reg [],.dec false,.reg [.none,.none,(.pv (.tup [(polyPV mul2),(vI mul3)]))],.reg [],.dec false,.reg [.none,.none,(.pv (.tup [(polyPV add),(vI add1)]))],dr 20 0 [.none,(iI (g.length:Int)),.none,.none,.none,.none,(iI (g.length:Int)),(iI ((g.length:Int)-1)),(.row k (ARat.cells v1)),.none,(.pv of.pv),(.pv (vI cmp)),.none,(.dec false),.none,.skip,.skip,.skip,.skip,(.dec true)],.auto,.reg []]) (cj (o_bs (sz_l ARat.cells) ([p,q,u,v,g]:List (List ARat))) (cj h1 (cj (dne_f h2) (cj h3 (cj (dne_f h4) (cj h5 (cj (dne_f h6) (cj h7 (cj (o_len ARat.cells g) (cj (deqN_f h8) (cj (deqN_f h8) (cj (deqN_f h8) (cj (o_len ARat.cells g) (cj (deqN_f h8) (cj (bs_sub h9) (cj (deqN_f h8) (cj (o_at ARat.cells h10 h11) (cj (deqN_f h8) (cj (deqN_f h8) (cj h12 (cj (deqN_f h8) (cj h13 (cj (deqN_f h8) (cj (deqN_f h8) (cj (dne_t h14) (cj (dne_t h14) (cj (dne_t h14) (cj (dne_t h14) (cj (dne_t h14) True.intro))))))))))))))))))))))))))))) (by kernel_rfl))
theorem e5(p q u v g:List ARat)(bot:Int)(mul:List ARat)(mul1:Int)(mul2:List ARat)(mul3:Int)(add:List ARat)(add1:Int)(k:Nat)(v1 of:ARat)(cmp:Int)(sam:Bool)(h1:Contract prg 50 [(lpv (lcell ARat.cells) [p,q,u,v,g])] (vI bot))(h2:bot=0)(h3:Contract prg 89 [(polyPV u),(polyPV p)] (.tup [(polyPV mul),(vI mul1)]))(h4:mul1=0)(h5:Contract prg 89 [(polyPV v),(polyPV q)] (.tup [(polyPV mul2),(vI mul3)]))(h6:mul3=0)(h7:Contract prg 90 [(polyPV mul),(polyPV mul2)] (.tup [(polyPV add),(vI add1)]))(h8:g.length≠0)(h9:InI64 ((g.length:Int)-1))(h10:((g.length:Int)-1)=(k:Int))(h11:g[k]? = some v1)(h12:Contract prg 27 [(vI 1)] of.pv)(h13:Contract prg 91 [v1.pv,of.pv] (vI cmp))(h14:cmp=0)(h15:Contract prg 39 [(polyPV add),(polyPV g)] (vB sam))(h16:sam=false):Contract prg 38 [(polyPV p),(polyPV q),(polyPV u),(polyPV v),(polyPV g)] (.tup [(vB false),(vI 0)]) :=
 Contract.ofL Tryz.func38 (by kernel_rfl) (L.done mixed tabOk (n:=153) (ns:=[3,1,1,1,1,1,1,1,1,1,1,1,1,1,1,1,3,1,1,1,1,1,1,1,1,1,1,1,1,1,1]) (tr:=[.reg [],.reg [.none,.none,.none,.none,.none,(.slc 0 0 (([p,q,u,v,g]:List (List ARat)).map (lcell ARat.cells))),(.pv (vI bot))],.reg [],.dec false,.reg [.none,.none,(.pv (.tup [(polyPV mul),(vI mul1)]))],.reg [],.dec false,.reg [.none,.none,(.pv (.tup [(polyPV mul2),(vI mul3)]))],.reg [],.dec false,.reg [.none,.none,(.pv (.tup [(polyPV add),(vI add1)]))],dr 20 0 [.none,(iI (g.length:Int)),.none,.none,.none,.none,(iI (g.length:Int)),(iI ((g.length:Int)-1)),(.row k (ARat.cells v1)),.none,(.pv of.pv),(.pv (vI cmp)),.none,(.dec false),.none,.none,.none,(.pv (vB sam)),.none,(.dec false)],.dec true,.reg []]) (cj (o_bs (sz_l ARat.cells) ([p,q,u,v,g]:List (List ARat))) (cj h1 (cj (dne_f h2) (cj h3 (cj (dne_f h4) (cj h5 (cj (dne_f h6) (cj h7 (cj (o_len ARat.cells g) (cj (deqN_f h8) (cj (deqN_f h8) (cj (deqN_f h8) (cj (o_len ARat.cells g) (cj (deqN_f h8) (cj (bs_sub h9) (cj (deqN_f h8) (cj (o_at ARat.cells h10 h11) (cj (deqN_f h8) (cj (deqN_f h8) (cj h12 (cj (deqN_f h8) (cj h13 (cj (deqN_f h8) (cj (deqN_f h8) (cj (dne_f h14) (cj (dne_f h14) (cj (dne_f h14) (cj h15 (cj (dne_f h14) (cj (dne_f h14) (cj (bnot_t h16) True.intro))))))))))))))))))))))))))))))) (by kernel_rfl))
theorem e6(p q u v g:List ARat)(bot:Int)(mul:List ARat)(mul1:Int)(mul2:List ARat)(mul3:Int)(add:List ARat)(add1:Int)(k:Nat)(v1 of:ARat)(cmp:Int)(sam:Bool)(div div1:List ARat)(div2:Int)(div3 div4:List ARat)(div5:Int)(h1:Contract prg 50 [(lpv (lcell ARat.cells) [p,q,u,v,g])] (vI bot))(h2:bot=0)(h3:Contract prg 89 [(polyPV u),(polyPV p)] (.tup [(polyPV mul),(vI mul1)]))(h4:mul1=0)(h5:Contract prg 89 [(polyPV v),(polyPV q)] (.tup [(polyPV mul2),(vI mul3)]))(h6:mul3=0)(h7:Contract prg 90 [(polyPV mul),(polyPV mul2)] (.tup [(polyPV add),(vI add1)]))(h8:g.length≠0)(h9:InI64 ((g.length:Int)-1))(h10:((g.length:Int)-1)=(k:Int))(h11:g[k]? = some v1)(h12:Contract prg 27 [(vI 1)] of.pv)(h13:Contract prg 91 [v1.pv,of.pv] (vI cmp))(h14:cmp=0)(h15:Contract prg 39 [(polyPV add),(polyPV g)] (vB sam))(h16:sam=true)(h17:Contract prg 85 [(polyPV p),(polyPV g)] (.tup [(polyPV div),(polyPV div1),(vI div2)]))(h18:Contract prg 85 [(polyPV q),(polyPV g)] (.tup [(polyPV div3),(polyPV div4),(vI div5)]))(h19:(div1.length+div4.length)<9223372036854775808):Contract prg 38 [(polyPV p),(polyPV q),(polyPV u),(polyPV v),(polyPV g)] (.tup [(vB ((((div1.length+div4.length):Nat):Int)==0)),(vI 0)]) :=
 Contract.ofL Tryz.func38 (by kernel_rfl) (L.done mixed tabOk (n:=168) (ns:=[3,1,1,1,1,1,1,1,1,1,1,1,1,1,1,1,3,1,1,1,1,1,1,1,1,1,1,1,1,1,1,1,1,1,1,1]) (tr:=[.reg [],.reg [.none,.none,.none,.none,.none,(.slc 0 0 (([p,q,u,v,g]:List (List ARat)).map (lcell ARat.cells))),(.pv (vI bot))],.reg [],.dec false,.reg [.none,.none,(.pv (.tup [(polyPV mul),(vI mul1)]))],.reg [],.dec false,.reg [.none,.none,(.pv (.tup [(polyPV mul2),(vI mul3)]))],.reg [],.dec false,.reg [.none,.none,(.pv (.tup [(polyPV add),(vI add1)]))],dr 20 0 [.none,(iI (g.length:Int)),.none,.none,.none,.none,(iI (g.length:Int)),(iI ((g.length:Int)-1)),(.row k (ARat.cells v1)),.none,(.pv of.pv),(.pv (vI cmp)),.none,(.dec false),.none,.none,.none,(.pv (vB sam)),.none,(.dec false)],.dec false,.reg [.none,.none,(.pv (.tup [(polyPV div),(polyPV div1),(vI div2)]))],.reg [.none,.none,(.pv (.tup [(polyPV div3),(polyPV div4),(vI div5)]))],.reg [.none,(iI (div1.length:Int)),.none,(iI (div4.length:Int)),(iI (((div1.length+div4.length):Nat):Int))]]) (cj (o_bs (sz_l ARat.cells) ([p,q,u,v,g]:List (List ARat))) (cj h1 (cj (dne_f h2) (cj h3 (cj (dne_f h4) (cj h5 (cj (dne_f h6) (cj h7 (cj (o_len ARat.cells g) (cj (deqN_f h8) (cj (deqN_f h8) (cj (deqN_f h8) (cj (o_len ARat.cells g) (cj (deqN_f h8) (cj (bs_sub h9) (cj (deqN_f h8) (cj (o_at ARat.cells h10 h11) (cj (deqN_f h8) (cj (deqN_f h8) (cj h12 (cj (deqN_f h8) (cj h13 (cj (deqN_f h8) (cj (deqN_f h8) (cj (dne_f h14) (cj (dne_f h14) (cj (dne_f h14) (cj h15 (cj (dne_f h14) (cj (dne_f h14) (cj (bnot_f h16) (cj h17 (cj h18 (cj (o_len ARat.cells div1) (cj (o_len ARat.cells div4) (cj (bs_addN h19) True.intro)))))))))))))))))))))))))))))))))))) (by kernel_rfl))
end linkworkref08_Accepts
end Go.Proofs.YtboilcfohmmpbaaGreatDoor.Sym.Path
namespace Go.Proofs.YtboilcfohmmpbaaGreatDoor.Sym
open Go Path CInt Dt Rs
set_option linter.unusedVariables false
theorem CPl.Degree(p:List ARat)(h:p.length≤1000000):Contract prg 47 [polyPV p] (vI ((p.length:Int)-1)):=poly_Degree.e0 p (by unfold InI64;omega)
def chkL:List (List ARat)→Int
 |[]=>0
 |p::r=>if chk p=0 then chkL r else chk p
theorem CRs.checks(l:List (List ARat))(hl:l.length≤1000)(hf:∀p∈l,FitP 274877906944 p):Contract prg 43 [lpv (lcell ARat.cells) l] (errPV (errOf (chkL l))):=by
 have loop:∀d t:Nat,t+d=l.length→resultant_checks.Loop1 l t (errPV (errOf (chkL (l.drop t)))):=by
  intro d
  induction d with
  |zero =>
   intro t ht
   rw[List.drop_eq_nil_of_le (by omega)]
   exact resultant_checks.l12 l t (by omega)
  |succ d ih =>
   intro t ht
   obtain⟨v,hv⟩:∃v,l[t]? = some v:=⟨_,List.getElem?_eq_getElem (by omega)⟩
   have hc:=CPo.Check v (hf v (List.mem_of_getElem? hv))
   rw[drop_cons hv,chkL]
   by_cases e:chk v=0
   ·rw[if_pos e]
    rw[e] at hc
    exact resultant_checks.l10 l t v (by omega) hv hc (by omega) (ih (t+1) (by omega))
   ·rw[if_neg e]
    rw[errOf_ne e] at hc ⊢
    exact resultant_checks.l11 l t v _ (by omega) hv hc
 exact resultant_checks.e0 l (loop l.length 0 (by omega))
theorem CRs.both(l:List (List ARat))(hl:l.length≤1000)(hf:∀p∈l,FitP 274877906944 p):Contract prg 50 [lpv (lcell ARat.cells) l] (vI (chkL l)):=by
 have loop:∀d t:Nat,t+d=l.length→linkworkref08_both.Loop1 l t (vI (chkL (l.drop t))):=by
  intro d
  induction d with
  |zero =>
   intro t ht
   rw[List.drop_eq_nil_of_le (by omega)]
   exact linkworkref08_both.l12 l t (by omega)
  |succ d ih =>
   intro t ht
   obtain⟨v,hv⟩:∃v,l[t]? = some v:=⟨_,List.getElem?_eq_getElem (by omega)⟩
   have hc:=CRe.Check v (hf v (List.mem_of_getElem? hv))
   rw[drop_cons hv,chkL]
   by_cases e:chk v=0
   ·rw[if_pos e]
    exact linkworkref08_both.l11 l t v _ (by omega) hv hc e (by omega) (ih (t+1) (by omega))
   ·rw[if_neg e]
    exact linkworkref08_both.l10 l t v _ (by omega) hv hc e
 exact linkworkref08_both.e0 l (loop l.length 0 (by omega))
def rowOf(P:List Rat)(t:Nat):Nat→Rat:=fun c=>if t≤c∧c<t+P.length then coef P (P.length-1-(c-t)) else 0
theorem rowOf_eq{P:List Rat}{N e t c:Nat}(hP:P≠[])(hN:N=P.length-1+e)(ht:t<e)(hc:c<N):coef (shiftL (e-1-t) P) (N-1-c)=rowOf P t c:=by
 have hl:P.length≠0:=fun h=>hP (List.eq_nil_of_length_eq_zero h)
 rw[coef_shiftL]
 unfold rowOf
 by_cases h1:t≤c∧c<t+P.length
 ·rw[if_neg (by omega),if_pos h1,show N-1-c-(e-1-t)=P.length-1-(c-t) by omega]
 ·rw[if_neg h1]
  by_cases h2:N-1-c<e-1-t
  ·rw[if_pos h2]
  ·rw[if_neg h2];exact coef_ge (by omega)
theorem syl_row{p q:List Rat}(hp:p≠[])(hq:q≠[]){i c:Nat}(hi:i<p.length-1+(q.length-1))(hc:c<p.length-1+(q.length-1)):syl p q i c=if i<q.length-1 then rowOf p i c else rowOf q (i-(q.length-1)) c:=by
 unfold syl
 by_cases h:i<q.length-1
 ·rw[if_pos h,if_pos h,rowOf_eq hp rfl h hc]
 ·rw[if_neg h,if_neg h,rowOf_eq hq (e:=p.length-1) (by omega) (by omega) hc]
def mkH(N t:Nat):List (Nat×Nat):=(List.range t).map fun j=>(j,N)
def mkX(N t:Nat)(M:Mx):List (List ARat):=(List.range t).map fun i=>rowR N (M i)
theorem mkH_len(N t:Nat):(mkH N t).length=t:=by unfold mkH;simp
theorem mkX_len(N t:Nat)(M:Mx):(mkX N t M).length=t:=by unfold mkX;simp
theorem mkH_succ(N t:Nat)(M:Mx):mkH N t++[((mkX N t M).length,N)]=mkH N (t+1):=by rw[mkX_len];unfold mkH;rw[List.range_succ];simp
theorem mkX_succ(N t:Nat)(M:Mx):mkX N t M++[rowR N (M t)]=mkX N (t+1) M:=by unfold mkX;rw[List.range_succ];simp
theorem mk_mat{N B:Nat}{M:Mx}(h:∀i k,i<N→k<N→ht (M i k)≤B):MatR N B (mkH N N) (mkX N N M) M:=by
 refine⟨mkH_len N N,fun i hi=>⟨i,?_,?_⟩,fun i k j a b hi hk h1 h2 => ?_,h⟩
 ·unfold mkH;rw[List.getElem?_map,List.getElem?_range hi];rfl
 ·unfold mkX;rw[List.getElem?_map,List.getElem?_range hi];rfl
 ·unfold mkH at h1 h2
  rw[List.getElem?_map,List.getElem?_range hi] at h1
  rw[List.getElem?_map,List.getElem?_range hk] at h2
  simp at h1 h2
  omega
theorem syl_ht{p q:List Rat}{B:Nat}(hp:p≠[])(hq:q≠[])(fp:Fl B p)(fq:Fl B q)(hB:1≤B):∀i k,i<p.length-1+(q.length-1)→k<p.length-1+(q.length-1)→ht (syl p q i k)≤B:=by
 intro i k hi hk
 have hr:∀(P:List Rat) t c,Fl B P→ht (rowOf P t c)≤B:=fun P t c hP=>by
  unfold rowOf
  split
  ·exact fl_coef hP hB _
  ·rw[ht_zero];exact hB
 rw[syl_row hp hq hi hk]
 split
 ·exact hr _ _ _ fp
 ·exact hr _ _ _ fq
namespace CRsP
section
variable {p q:List Rat} {B:Nat}
theorem k_loop{deg deg1:Int}{rows:List (Nat×Nat)}{i N t1:Nat}{P:List Rat}{e:Int}{t2:Nat}{p q:List ARat}{heap:List (List ARat)}{r:EV}{sout:Sto}(hN:N≤1000)(hPN:i+P.length≤N)(hf:Fl B P)(hB:B≤68719476736)(hrl:rows.length≤1000)(ht2:t2≤1000)
  (hend:resultant_sylvesterM.Loop2 deg deg1 (rows++[(heap.length,N)]) t1 ⟨P.map mkR,e⟩ (t2+1) p q (heap++[rowR N (rowOf P i)]) [] r sout) :
  ∀d k:Nat,k+d=P.length→resultant_sylvesterM.Loop3 deg deg1 rows i N t1 ⟨P.map mkR,e⟩ t2 k p q (rowR N (fun c=>if i≤c∧c<i+k then coef P (P.length-1-(c-i)) else 0)) heap [] r sout
 |0,k,hk=>by
  have hkP:k=P.length:=by omega
  rw[rowR_congr (g:=rowOf P i) (fun c _=>by unfold rowOf;rw[hkP])]
  exact resultant_sylvesterM.l31 deg deg1 rows i N t1 _ t2 k p q _ heap rfl (by simp;omega) (by simp;omega) (by omega) hend
 |d+1,k,hk=>by
  have hg:(P.map mkR)[P.length-1-k]? = some (mkR (coef P (P.length-1-k))):=by rw[List.getElem?_map,coef_get (by omega)];rfl
  have hc:ht (coef P (P.length-1-k))≤B:=hf _ (List.mem_of_getElem? (coef_get (show P.length-1-k<P.length by omega)))
  refine resultant_sylvesterM.l30 deg deg1 rows i N t1 _ t2 k p q _ heap (P.length-1-k) _ _ rfl (by simp;omega) (by omega) (by simp;unfold InI64;omega) (by simp;unfold InI64;omega) (by simp;omega) hg (QF.addZ _ (by omega)) (by omega) (by rw[rowR_len];omega) (by omega) ?_
  rw[rowR_set _ _ (by omega)]
  rw[rowR_congr (g:=fun c=>if i≤c∧c<i+(k+1) then coef P (P.length-1-(c-i)) else 0) (fun c hc => ?_)]
  ·exact k_loop hN hPN hf hB hrl ht2 hend d (k+1) (by omega)
  ·by_cases h1:c=i+k
   ·rw[if_pos h1,if_pos (by omega),h1,show i+k-i=k by omega]
   ·rw[if_neg h1]
    by_cases h2:i≤c∧c<i+k
    ·rw[if_pos h2,if_pos (by omega)]
    ·rw[if_neg h2,if_neg (by omega)]
theorem t_loop{N b e t1:Nat}{P:List Rat}{M:Mx}{deg deg1:Int}{p q:List ARat}{r:EV}{sout:Sto}(hN:N≤1000)(hdd:deg+deg1=(N:Int))(hP:P≠[])(hNe:N=P.length-1+e)(hb:b+e≤N)(hf:Fl B P)(hB:B≤68719476736)(ht1:t1≤10)(hM:∀s c,s<e→c<N→M (b+s) c=rowOf P s c)
  (hend:resultant_sylvesterM.Loop1 deg deg1 (mkH N (b+e)) (t1+1) p q (mkX N (b+e) M) [] r sout) :
  ∀d s:Nat,s+d=e→resultant_sylvesterM.Loop2 deg deg1 (mkH N (b+s)) t1 ⟨P.map mkR,(e:Int)⟩ s p q (mkX N (b+s) M) [] r sout
 |0,s,hs=>by
  have:e=s:=by omega
  subst this
  exact resultant_sylvesterM.l21 deg deg1 _ t1 _ _ p q _ rfl (by simp) (by omega) hend
 |d+1,s,hs=>by
  have hl:P.length≠0:=fun h=>hP (List.eq_nil_of_length_eq_zero h)
  refine resultant_sylvesterM.l20 deg deg1 _ t1 _ s p q _ N rfl (by simp;omega) (by rw[hdd];unfold InI64;omega) hdd (by omega) ?_
  have h0:List.replicate N (⟨false,[],[]⟩:ARat)=rowR N (fun c=>if s≤c∧c<s+0 then coef P (P.length-1-(c-s)) else 0):=by
   rw[tabL_zero]
   exact rowR_congr (fun c _=>by rw[if_neg (by omega)])
  rw[h0]
  refine k_loop hN (by omega) hf hB (by rw[mkH_len];omega) (by omega) ?_ P.length 0 (by omega)
  have ih:=t_loop hN hdd hP hNe hb hf hB ht1 hM hend d (s+1) (by omega)
  rw[show b+(s+1)=(b+s)+1 by omega,←mkH_succ N (b+s) M,←mkX_succ,rowR_congr (f:=M (b+s)) (g:=rowOf P s) (fun c hc=>hM s c (by omega) hc)] at ih
  exact ih
theorem sylvester(hp:p≠[])(hq:q≠[])(hl:p.length-1+(q.length-1)≤40)(fp:Fl B p)(fq:Fl B q)(hB:B≤68719476736) :
  ContractX prg 44 [.pv (pq p),.pv (pq q)] [] (.rowT 0 0 (mkH (p.length-1+(q.length-1)) (p.length-1+(q.length-1))).length 1 [.nilI]) [(0,.mats (mkH (p.length-1+(q.length-1)) (p.length-1+(q.length-1))) 3),(999999,.heap (hrows ARat.cells (mkX (p.length-1+(q.length-1)) (p.length-1+(q.length-1)) (syl p q))))]:=by
 have hpl:p.length≠0:=fun h=>hp (List.eq_nil_of_length_eq_zero h)
 have hql:q.length≠0:=fun h=>hq (List.eq_nil_of_length_eq_zero h)
 have hd1:((p.map mkR).length:Int)-1=((p.length-1:Nat):Int):=by simp;omega
 have hd2:((q.map mkR).length:Int)-1=((q.length-1:Nat):Int):=by simp;omega
 generalize hN:p.length-1+(q.length-1)=N at *
 have c1:=CPl.Degree (p.map mkR) (by simp;omega)
 have c2:=CPl.Degree (q.map mkR) (by simp;omega)
 rw[hd1] at c1
 rw[hd2] at c2
 have hdd:((p.length-1:Nat):Int)+((q.length-1:Nat):Int)=(N:Int):=by omega
 refine resultant_sylvesterM.e3 (p.map mkR) (q.map mkR) _ _ (by simp;exact hp) (by simp;exact hq) c1 c2 (by rw[hdd];unfold InI64;omega) (by omega) ?_
 have t2:resultant_sylvesterM.Loop1 ((p.length-1:Nat):Int) ((q.length-1:Nat):Int) (mkH N N) 2 (p.map mkR) (q.map mkR) (mkX N N (syl p q)) [] (.rowT 0 0 (mkH N N).length 1 [.nilI]) [(0,.mats (mkH N N) 3),(999999,.heap (hrows ARat.cells (mkX N N (syl p q))))] :=
  resultant_sylvesterM.l11 _ _ _ 2 _ _ _ rfl rfl (Nat.le_refl _)
 have t1:resultant_sylvesterM.Loop1 ((p.length-1:Nat):Int) ((q.length-1:Nat):Int) (mkH N (q.length-1)) 1 (p.map mkR) (q.map mkR) (mkX N (q.length-1) (syl p q)) [] (.rowT 0 0 (mkH N N).length 1 [.nilI]) [(0,.mats (mkH N N) 3),(999999,.heap (hrows ARat.cells (mkX N N (syl p q))))]:=by
  refine resultant_sylvesterM.l10 _ _ _ 1 _ _ _ ⟨q.map mkR,((p.length-1:Nat):Int)⟩ rfl (by omega) rfl ?_
  have:=t_loop (p:=p.map mkR) (q:=q.map mkR) (N:=N) (b:=q.length-1) (e:=p.length-1) (t1:=1) (P:=q) (M:=syl p q) (by omega) hdd hq (by omega) (by omega) fq hB (by omega) (fun s c hs hc=>by
   rw[syl_row hp hq (by omega) (by omega),if_neg (by omega),Nat.add_sub_cancel_left]) (by rw[show q.length-1+(p.length-1)=N by omega];exact t2) (p.length-1) 0 (by omega)
  exact this
 refine resultant_sylvesterM.l10 _ _ _ 0 _ _ _ ⟨p.map mkR,((q.length-1:Nat):Int)⟩ rfl (by omega) rfl ?_
 have:=t_loop (p:=p.map mkR) (q:=q.map mkR) (N:=N) (b:=0) (e:=q.length-1) (t1:=0) (P:=p) (M:=syl p q) (by omega) hdd hp (by omega) (by omega) fp hB (by omega) (fun s c hs hc=>by
  rw[Nat.zero_add,syl_row hp hq (by omega) (by omega),if_pos hs]) (by rw[Nat.zero_add];exact t1) (q.length-1) 0 (by omega)
 exact this
end
end CRsP
end Go.Proofs.YtboilcfohmmpbaaGreatDoor.Sym
namespace Go.Proofs.YtboilcfohmmpbaaGreatDoor.Sym
open Go Path CInt Dt Rs
set_option linter.unusedVariables false
def timL(p q:List Rat):List Rat:=if p.length=0∨q.length=0 then [] else tabL (p.length+q.length-1) (coef (mulL p q))
def lessL(p q:List Rat):List Rat:=tabL (max p.length q.length) (fun i=>coef p i-coef q i)
theorem mul_high{p q:List Rat}{i:Nat}(h:p.length+q.length-1≤i):coef (mulL p q) i=0:=by
 by_cases hp:p.length=0
 ·rw[List.eq_nil_of_length_eq_zero hp];rfl
 by_cases hq:q.length=0
 ·rw[coef_mul_comm,List.eq_nil_of_length_eq_zero hq];rfl
 rw[mul_sum (Nat.le_refl p.length)]
 refine sumN_zero (fun s hs => ?_)
 rw[coef_shiftL]
 split
 ·grind
 ·rw[coef_ge (p:=q) (by omega)];grind
theorem timL_coef(p q:List Rat)(i:Nat):coef (timL p q) i=coef (mulL p q) i:=by
 unfold timL
 split
 ·rename_i h
  rcases h with h|h
  ·rw[List.eq_nil_of_length_eq_zero h];rfl
  ·rw[coef_mul_comm,List.eq_nil_of_length_eq_zero h];rfl
 ·exact tabL_coef (fun i hi=>mul_high hi) i
theorem timL_len(p q:List Rat):(timL p q).length≤p.length+q.length:=by
 unfold timL
 split
 ·simp
 ·rw[tabL_len];omega
theorem lessL_coef(p q:List Rat)(i:Nat):coef (lessL p q) i=coef p i-coef q i:=by
 unfold lessL
 exact tabL_coef (fun i hi=>by rw[coef_ge (p:=p) (by omega),coef_ge (p:=q) (by omega)];grind) i
theorem lessL_len(p q:List Rat):(lessL p q).length=max p.length q.length:=tabL_len _ _
theorem set_tab{m t:Nat}{g:Nat→Rat}(v:Rat)(h:t<m):((tabL m g).map mkR).set t (mkR v)=(tabL m (fun i=>if i=t then v else g i)).map mkR:=by
 rw[←List.map_set,tabL_set g v h]
namespace CRsP
theorem times{a b:Nat}(n:Nat)(p q:List Rat)(hlp:p.length≤100000)(hlq:q.length≤100000)(hp:Fl a p)(hq:Fl b q)(ha:1≤a)(hb:1≤b)(hn:p.length≤n∨q.length≤n)(hk:(n+1)*(a+b+1)+1≤68719476736):Contract prg 81 [pq p,pq q] (pq (timL p q)):=by
 rw[Nat.add_mul] at hk
 by_cases h0:p.length=0
 ·rw[List.eq_nil_of_length_eq_zero h0]
  exact resultant_times.e0 _ _ rfl
 by_cases h1:q.length=0
 ·rw[show timL p q=[] from if_pos (Or.inr h1)]
  exact resultant_times.e1 _ _ (by rw[lenM];exact h0) (by rw[lenM];exact h1)
 have hm:∀i,p.length+q.length-1≤i→∀t,coef (mulL (p.take t) q) i=0:=by
  intro i hi t
  have key:∀(p:List Rat) (i:Nat),p.length+q.length-1≤i→coef (mulL p q) i=0:=by
   intro p
   induction p with
   |nil=>intro i _;rfl
   |cons c p ih =>
    intro i hi
    rw[List.length_cons] at hi
    rw[coef_mul_cons,coef_ge (p:=q) (by omega)]
    cases i with
    |zero=>rw[coef_zero];grind
    |succ i =>
     rw[coef_succ]
     cases p with
     |nil=>rw[mulL,coef_nil];grind
     |cons d p=>rw[ih i (by omega)];grind
  exact key _ i (by rw[List.length_take];omega)
 have bG:=ht_mul_take hp hq ha hb hn
 have outer:∀(j t:Nat),p.length-t=j→t≤p.length→resultant_times.Loop1 (q.map mkR) (p.length+q.length-1) (p.map mkR) t ((tabL (p.length+q.length-1) (coef (mulL (p.take t) q))).map mkR) (pq (timL p q)):=by
  intro j
  induction j with
  |zero =>
   intro t hj ht
   have e:timL p q=tabL (p.length+q.length-1) (coef (mulL (p.take t) q)):=by
    unfold timL
    rw[if_neg (by omega),List.take_of_length_le (by omega)]
   rw[e]
   exact resultant_times.l11 _ _ _ t _ (by rw[lenM];omega) (by rw[lenM,tabL_len])
  |succ j ih =>
   intro t hj ht
   obtain⟨v,hv⟩:∃v,p[t]? = some v:=⟨_,List.getElem?_eq_getElem (by omega)⟩
   have hvh:=hp v (List.mem_of_getElem? hv)
   refine resultant_times.l10 _ _ _ t _ (mkR v) (by rw[lenM];omega) (getM hv) ?_
   have inner:∀(k u:Nat),q.length-u=k→u≤q.length→resultant_times.Loop2 (q.map mkR) (p.length+q.length-1) t (p.map mkR) t u (mkR v) ((tabL (p.length+q.length-1) (fun i=>coef (mulL (p.take t) q) i+if t≤i∧i<t+u then v*coef q (i-t) else 0)).map mkR) (pq (timL p q)):=by
    intro k
    induction k with
    |zero =>
     intro u hk2 hu
     refine resultant_times.l21 _ _ t _ t u _ _ (by rw[lenM];omega) (by omega) ?_
     have:=ih (t+1) (by omega) (by omega)
     rwa[tabL_congr (f:=coef (mulL (p.take (t+1)) q)) (g:=fun i=>coef (mulL (p.take t) q) i+if t≤i∧i<t+u then v*coef q (i-t) else 0) (fun i hi=>by
      rw[coef_mul_snoc hv,coef_shiftL,coef_smulL]
      congr 1
      by_cases h1:i<t
      ·rw[if_pos h1,if_neg (by omega)]
      ·rw[if_neg h1]
       by_cases h2:i<t+u
       ·rw[if_pos (by omega)]
       ·rw[if_neg (by omega),coef_ge (p:=q) (by omega),Rat.mul_zero])] at this
    |succ k ih2 =>
     intro u hk2 hu
     obtain⟨w,hw⟩:∃w,q[u]? = some w:=⟨_,List.getElem?_eq_getElem (by omega)⟩
     have hwh:=hq w (List.mem_of_getElem? hw)
     have hg:t+u<p.length+q.length-1:=by omega
     have b1:=bG t (t+u)
     have b2:=ht_mul v w
     refine resultant_times.l20 _ _ t _ t u _ _ (mkR w) (mkR (coef (mulL (p.take t) q) (t+u))) _ _ (by rw[lenM];omega) (getM hw) (by omega) hg ?_ (QF.Mul v w (by omega) (by omega)) (QF.Add (coef (mulL (p.take t) q) (t+u)) (v*w) (by omega) (by omega)) (by rw[lenM,tabL_len];omega) (by omega) ?_
     ·rw[getM (tabL_get _ hg),if_neg (by omega),Rat.add_zero]
     ·rw[tab_step (f:=fun i=>coef (mulL (p.take t) q) i+if t≤i∧i<t+(u+1) then v*coef q (i-t) else 0) hg (by
       rw[if_pos (by omega),show t+u-t=u from by omega,coef_of hw]) (fun i hi=>by
       congr 1
       by_cases h:t≤i∧i<t+u
       ·rw[if_pos h,if_pos (by omega)]
       ·rw[if_neg h,if_neg (by omega)])]
      exact ih2 (u+1) (by omega) (by omega)
   have:=inner _ 0 rfl (by omega)
   rwa[tabL_congr (g:=coef (mulL (p.take t) q)) (fun i hi=>by rw[if_neg (by omega),Rat.add_zero])] at this
 have:=outer _ 0 rfl (by omega)
 refine resultant_times.e2 _ _ (p.length+q.length-1) (by rw[lenM];exact h0) (by rw[lenM];exact h1) (by rw[lenM,lenM];omega) (by rw[lenM,lenM];unfold InI64;omega) (by rw[lenM,lenM];omega) (by omega) ?_
 rw[tabL_zero]
 exact this
theorem less{a b:Nat}(p q:List Rat)(hlp:p.length≤100000)(hlq:q.length≤100000)(hp:Fl a p)(hq:Fl b q)(ha:1≤a)(hb:1≤b)(hk:a+b+1≤68719476736):Contract prg 80 [pq p,pq q] (pq (lessL p q)):=by
 have hmax:max (p.map mkR).length (q.map mkR).length=max p.length q.length:=by rw[lenM,lenM]
 have loop:∀d t:Nat,t+d=max p.length q.length→resultant_less.Loop1 (p.map mkR) (q.map mkR) t ((tabL (max p.length q.length) (fun i=>if i<t then coef p i-coef q i else 0)).map mkR) (pq (lessL p q)):=by
  intro d
  induction d with
  |zero =>
   intro t ht
   have e:lessL p q=tabL (max p.length q.length) (fun i=>if i<t then coef p i-coef q i else 0):=tabL_congr (fun i hi=>by rw[if_pos (by omega)])
   rw[e]
   exact resultant_less.l14 _ _ t _ (by rw[hmax];omega) (by rw[hmax,lenM,tabL_len])
  |succ d ih =>
   intro t ht
   have hg:t<max p.length q.length:=by omega
   have ih:=ih (t+1) (by omega)
   have e:∀g:Nat→Rat,g t=coef p t-coef q t→(∀i,i≠t→g i=if i<t then coef p i-coef q i else 0)→(tabL (max p.length q.length) g).map mkR=(tabL (max p.length q.length) (fun i=>if i<t+1 then coef p i-coef q i else 0)).map mkR:=fun g g1 g2=>by
    congr 1
    refine tabL_congr (fun i hi => ?_)
    by_cases h:i=t
    ·subst h;rw[if_pos (by omega),g1]
    ·rw[g2 i h]
     by_cases h2:i<t
     ·rw[if_pos h2,if_pos (by omega)]
     ·rw[if_neg h2,if_neg (by omega)]
   by_cases h1:t<p.length
   ·have hv:(p.map mkR)[t]? = some (mkR (coef p t)):=getM (coef_get h1)
    have hvh:=hp _ (List.mem_of_getElem? (coef_get h1))
    by_cases h2:t<q.length
    ·have hw:(q.map mkR)[t]? = some (mkR (coef q t)):=getM (coef_get h2)
     have hwh:=hq _ (List.mem_of_getElem? (coef_get h2))
     refine resultant_less.l10 _ _ t _ _ (mkR (coef p t)) _ _ (by rw[hmax];exact hg) (by rw[lenM];exact h1) hv (by rw[lenM,tabL_len];exact hg) (by rw[lenM];exact h2) ?_ hw (QF.Sub (coef p t) (coef q t) (by omega) (by omega)) (by rw[List.length_set,lenM,tabL_len];exact hg) (by omega) ?_
     ·rw[set_tab _ hg,getM (tabL_get _ hg),if_pos rfl]
     ·rw[set_tab _ hg,set_tab _ hg,e _ (if_pos rfl) (fun i hi=>by rw[if_neg hi,if_neg hi])]
      exact ih
    ·refine resultant_less.l11 _ _ t _ _ (by rw[hmax];exact hg) (by rw[lenM];exact h1) hv (by rw[lenM,tabL_len];exact hg) (by rw[lenM];omega) (by omega) ?_
     rw[set_tab _ hg,e _ (by rw[if_pos rfl,coef_ge (p:=q) (by omega)];grind) (fun i hi=>by rw[if_neg hi])]
     exact ih
   ·have h2:t<q.length:=by omega
    have hw:(q.map mkR)[t]? = some (mkR (coef q t)):=getM (coef_get h2)
    have hwh:=hq _ (List.mem_of_getElem? (coef_get h2))
    refine resultant_less.l12 _ _ t _ (mkR 0) _ _ (by rw[hmax];exact hg) (by rw[lenM];omega) (by rw[lenM];exact h2) ?_ hw (QF.Sub 0 (coef q t) (by rw[ht_zero];omega) (by omega)) (by rw[lenM,tabL_len];exact hg) (by omega) ?_
    ·rw[getM (tabL_get _ hg),if_neg (by omega)]
    ·rw[set_tab _ hg,e _ (by rw[if_pos rfl,coef_ge (p:=p) (by omega)]) (fun i hi=>by rw[if_neg hi])]
     exact ih
 have:=loop (max p.length q.length) 0 (by omega)
 refine resultant_less.e0 _ _ (by rw[hmax];omega) ?_
 rw[hmax,tabL_zero]
 rwa[tabL_congr (g:=fun _=>0) (fun i _=>by rw[if_neg (by omega)])] at this
theorem quotient{h b:Nat}(l p q:List Rat)(hl0:p=trimL l)(hpl:Ch h l)(hll:l.length≤10000)(hz:lastZ q=false)(hq0:q≠[])(hp:Ch h p)(hq:Ch b q)(h1:1≤h)(hb1:1≤b)(hlp:p.length≤10000)(hlq:q.length≤10000)(hk:2*(h+(p.length+1-q.length)*(b+1))+3*b+5≤68719476736):Contract prg 79 [pq l,pq q] (.tup [pq (divL p q).1,.nilI]):=by
 have hql:=List.length_pos_iff.2 hq0
 have hqt:=ht_top hq hb1
 have htop:=top_ne hz hq0
 obtain⟨H,hH⟩:∃H,H=h+(p.length+1-q.length)*(b+1):=⟨_,rfl⟩
 rw[←hH] at hk
 have hqc:∀i,ht (coef q i)≤b:=fun i=>by have:=hq.ht i;omega
 have loop:∀(n hc:Nat) (out rest:List Rat),rest.length<n→1≤hc→Ch hc rest→hc+(rest.length+1-q.length)*(b+1)≤H→lastZ out=false→lastZ rest=false→out.length≤p.length+1-q.length→rest.length≤p.length→(∀i,ht (coef out i)≤H+b)→(∀i,i+q.length≤rest.length→coef out i=0) →
   resultant_quotient.Loop1 (q.map mkR) (rest.map mkR).length (p.length+1-q.length) (rest.map mkR) ((tabL (p.length+1-q.length) (coef out)).map mkR) (.tup [pq (divF n out rest q).1,.nilI]):=by
  intro n
  induction n with
  |zero=>intro hc out rest hn;omega
  |succ n ih =>
   intro hc out rest hn hc1 hr hcH zo zr lo lr ho hout
   rw[divF]
   cases hb:Nat.blt rest.length q.length with
   |true =>
    have hlt:=blt_iff.1 hb
    rw[cond_true]
    have e:trimL (tabL (p.length+1-q.length) (coef out))=out:=by
     rw[←trimL_of zo]
     refine trimL_ext (fun i => ?_)
     rw[trimL_of zo]
     exact tabL_coef (fun i hi=>coef_ge (by omega)) i
    have ht:=CPl.Trim (k:=H+b) (tabL (p.length+1-q.length) (coef out)) (by rw[tabL_len];omega) (fl_of_coef (fun i=>by
     rw[tabL_coef (fun i hi=>coef_ge (by omega))];exact ho i)) (by omega)
    rw[e] at ht
    exact resultant_quotient.l12 _ _ _ _ _ _ (by rw[lenM,lenM];exact hlt) (by rw[lenM,tabL_len]) ht
   |false =>
    have hle:=blt_fal.1 hb
    rw[cond_false]
    have hr0:rest≠[]:=by intro e;rw[e] at hle;simp at hle;exact hq0 hle
    have hrt:=ht_top hr hc1
    have hrc:∀i,ht (coef rest i)≤hc:=fun i=>by have:=hr.ht i;omega
    have hsl:=stepR_len htop (by omega) hle
    have e1:rest.length+1-q.length=(rest.length-q.length)+1:=by omega
    have e2:((stepR rest q).length+1-q.length)*(b+1)≤(rest.length-q.length)*(b+1):=Nat.mul_le_mul_right _ (by omega)
    rw[e1,Nat.add_mul,Nat.one_mul] at hcH
    have hcc:ht (stepC rest q)≤hc+b:=by
     have:=ht_div (topL rest) (topL q)
     unfold stepC;omega
    have hdiv:=QF.Div (topL rest) (topL q) (by omega) (by omega) htop
    have cc:∀i,coef (trimL (addL out (shiftL (rest.length-q.length) [stepC rest q]))) i=if i=rest.length-q.length then stepC rest q else coef out i:=by
     intro i
     rw[coef_trimL,coef_addL,coef_shiftL]
     by_cases h3:i=rest.length-q.length
     ·rw[if_pos h3,if_neg (by omega),hout i (by omega),h3,Nat.sub_self,coef_zero,Rat.zero_add]
     ·rw[if_neg h3]
      split
      ·rw[Rat.add_zero]
      ·rw[coef_ge (p:=[stepC rest q]) (by simp;omega),Rat.add_zero]
    refine resultant_quotient.l10 _ _ _ _ _ (rest.length-1) (mkR (topL rest)) (q.length-1) (mkR (topL q)) (mkR (stepC rest q)) (rest.length-q.length) (by rw[lenM,lenM];exact hle) (by rw[lenM,lenM];unfold InI64;omega) (by rw[lenM];unfold InI64;omega) (by rw[lenM];omega) (by rw[lenM];omega) (getM (getTop hr0)) (by rw[lenM];unfold InI64;omega) (by rw[lenM];omega) (getM (getTop hq0)) hdiv (by rw[lenM,lenM];omega) (by omega) (by rw[lenM,tabL_len];omega) ?_
    rw[tab_step (f:=coef (trimL (addL out (shiftL (rest.length-q.length) [stepC rest q])))) (by omega) (by rw[cc,if_pos rfl]) (fun i hi=>by rw[cc,if_neg hi])]
    have next:=ih (hc+b+1) (trimL (addL out (shiftL (rest.length-q.length) [stepC rest q]))) (stepR rest q) (by omega) (by omega) (hr.step hq htop) (by omega) (lastZ_trimL _) (lastZ_trimL _) (len_trim_le (fun i hi=>by
     rw[←coef_trimL,cc,if_neg (by omega),coef_ge (by omega)])) (by omega) (fun i=>by
     rw[cc]
     split
     ·omega
     ·exact ho i) (fun i hi=>by rw[cc,if_neg (by omega)];exact hout i (by omega))
    have inner:∀(j t:Nat),q.length-t=j→t≤q.length→resultant_quotient.Loop2 (q.map mkR) (rest.map mkR).length (p.length+1-q.length) (((rest.map mkR).length:Int)-((q.map mkR).length:Int)) t (mkR (stepC rest q)) ((tabL rest.length (fun i=>coef rest i-if rest.length-q.length≤i∧i<rest.length-q.length+t then stepC rest q*coef q (i-(rest.length-q.length)) else 0)).map mkR) ((tabL (p.length+1-q.length) (coef (trimL (addL out (shiftL (rest.length-q.length) [stepC rest q]))))).map mkR)
      (.tup [pq (divF n (trimL (addL out (shiftL (rest.length-q.length) [stepC rest q]))) (stepR rest q) q).1,.nilI]):=by
     intro j
     induction j with
     |zero =>
      intro t hj ht
      have e:trimL (tabL rest.length (fun i=>coef rest i-if rest.length-q.length≤i∧i<rest.length-q.length+t then stepC rest q*coef q (i-(rest.length-q.length)) else 0))=stepR rest q:=by
       refine trimL_ext (fun i => ?_)
       rw[coef_addL,coef_shiftL,coef_smulL]
       by_cases hi:i<rest.length
       ·rw[coef_of (tabL_get _ hi)]
        by_cases h3:i<rest.length-q.length
        ·rw[if_neg (by omega),if_pos h3];grind
        ·rw[if_pos (by omega),if_neg h3];grind
       ·rw[coef_ge (p:=tabL _ _) (by rw[tabL_len];omega),coef_ge (p:=rest) (by omega),if_neg (by omega),coef_ge (p:=q) (by omega)];grind
      have htx:=CPl.TrimX (k:=2*hc+2*b+1) (tabL rest.length (fun i=>coef rest i-if rest.length-q.length≤i∧i<rest.length-q.length+t then stepC rest q*coef q (i-(rest.length-q.length)) else 0)) (by rw[tabL_len];omega) (fl_of_coef (fun i=>by
       by_cases hi:i<rest.length
       ·rw[coef_of (tabL_get _ hi)]
        have a1:=hrc i
        have a2:=hqc (i-(rest.length-q.length))
        have a3:=ht_mul (stepC rest q) (coef q (i-(rest.length-q.length)))
        have a4:=ht_sub (coef rest i) (stepC rest q*coef q (i-(rest.length-q.length)))
        split
        ·omega
        ·rw[show coef rest i-0=coef rest i from by grind];omega
       ·rw[coef_ge (p:=tabL _ _) (by rw[tabL_len];omega),ht_zero];omega)) (by omega)
      rw[e] at htx
      exact resultant_quotient.l21 _ _ _ _ _ _ _ _ _ _ (by rw[lenM];omega) (by rw[lenM,lenM,tabL_len]) htx next
     |succ j ih2 =>
      intro t hj ht
      obtain⟨w,hw⟩:∃w,q[t]? = some w:=⟨_,List.getElem?_eq_getElem (by omega)⟩
      have hwc:=coef_of hw
      have a2:=hqc t
      rw[hwc] at a2
      have a1:=hrc (rest.length-q.length+t)
      have a3:=ht_mul (stepC rest q) w
      have hg:rest.length-q.length+t<rest.length:=by omega
      refine resultant_quotient.l20 _ _ _ _ _ _ _ _ (mkR w) (rest.length-q.length+t) (mkR (coef rest (rest.length-q.length+t))) _ _ (rest.length-q.length+t) (by rw[lenM];omega) (getM hw) (by rw[lenM,lenM];unfold InI64;omega) (by rw[lenM,lenM];omega) (by rw[lenM];omega) ?_ (QF.Mul _ _ (by omega) (by omega)) (QF.Sub (coef rest (rest.length-q.length+t)) (stepC rest q*w) (by omega) (by omega)) (by rw[lenM,lenM];omega) (by rw[lenM];omega) (by rw[lenM,tabL_len];omega) (by omega) ?_
      ·rw[getM (tabL_get _ hg),if_neg (by omega)]
       congr 2;grind
      ·rw[tab_step (f:=fun i=>coef rest i-if rest.length-q.length≤i∧i<rest.length-q.length+(t+1) then stepC rest q*coef q (i-(rest.length-q.length)) else 0) hg (by
        rw[if_pos (by omega),show rest.length-q.length+t-(rest.length-q.length)=t from by omega,hwc]) (fun i hi=>by
        by_cases h:rest.length-q.length≤i∧i<rest.length-q.length+t
        ·rw[if_pos h,if_pos (by omega)]
        ·rw[if_neg h,if_neg (by omega)])]
       exact ih2 (t+1) (by omega) (by omega)
    have:=inner _ 0 rfl (by omega)
    have e0:(tabL rest.length (fun i=>coef rest i-if rest.length-q.length≤i∧i<rest.length-q.length+0 then stepC rest q*coef q (i-(rest.length-q.length)) else 0))=rest:=by
     refine List.ext_getElem? (fun i => ?_)
     by_cases hi:i<rest.length
     ·rw[tabL_get _ hi,coef_get hi,if_neg (by omega)]
      congr 1;grind
     ·rw[List.getElem?_eq_none (by rw[tabL_len];omega),List.getElem?_eq_none (by omega)]
    rwa[e0] at this
 have hlt:=len_trimL p
 have hmul:((trimL p).length+1-q.length)*(b+1)≤(p.length+1-q.length)*(b+1):=Nat.mul_le_mul_right _ (by omega)
 have:=loop (p.length+1) h [] (trimL p) (by omega) h1 hp.trim (by omega) rfl (lastZ_trimL p) (by simp) hlt (fun i=>by rw[coef_nil,ht_zero];omega) (fun i _=>rfl)
 have htx:=CPl.TrimX (k:=h) l (by omega) (hpl.fl h1) (by omega)
 have e0:trimL p=p:=by rw[hl0,trimL_of (lastZ_trimL l)]
 have e1:divL p q=divF (p.length+1) [] p q:=by unfold divL;rw[e0]
 rw[←hl0] at htx
 rw[e0] at this
 rw[e1]
 refine resultant_quotient.e0 _ _ _ _ (p.length+1-q.length) htx (by rw[lenM,lenM];unfold InI64;omega) (by rw[lenM,lenM];unfold InI64;omega) (by rw[lenM,lenM];omega) (by omega) ?_
 rw[tabL_zero]
 exact this
end CRsP
end Go.Proofs.YtboilcfohmmpbaaGreatDoor.Sym
namespace Go.Proofs.YtboilcfohmmpbaaGreatDoor.Sym
set_option linter.unusedVariables false
theorem mul_num{q:List Rat}{Dp Dq:Int}{M K:Nat}(hq:∀i,∃m:Int,coef q i*(Dq:Rat)=(m:Rat)∧m.natAbs≤K):∀(p:List Rat),(∀i,∃m:Int,coef p i*(Dp:Rat)=(m:Rat)∧m.natAbs≤M) →
  ∀i,∃m:Int,coef (mulL p q) i*((Dp*Dq:Int):Rat)=(m:Rat)∧m.natAbs≤p.length*(M*K)
 |[],_,i=>⟨0,by rw[show coef (mulL [] q) i=0 from rfl,Rat.zero_mul];rfl,Nat.zero_le _⟩
 |a::p,hp,i=>by
  have ih:=mul_num hq p (fun i=>by obtain⟨m,h⟩:=hp (i+1);exact⟨m,h⟩)
  obtain⟨m0,h1,h2⟩:=hp 0
  rw[coef_zero] at h1
  obtain⟨n0,h3,h4⟩:=hq i
  have hmn:(m0*n0).natAbs≤M*K:=by rw[Int.natAbs_mul];exact Nat.mul_le_mul h2 h4
  rw[coef_mul_cons,List.length_cons,Nat.add_mul,Nat.one_mul]
  cases i with
  |zero =>
   refine⟨m0*n0,?_,by omega⟩
   rw[coef_zero,Rat.intCast_mul,Rat.intCast_mul,←h1,←h3]
   grind
  |succ i =>
   rw[coef_succ]
   obtain⟨k,k1,k2⟩:=ih i
   refine⟨m0*n0+k,?_,?_⟩
   ·rw[Rat.intCast_add,←k1,Rat.intCast_mul,Rat.intCast_mul,←h1,←h3]
    grind
   ·have:=Int.natAbs_add_le (m0*n0) k
    omega
theorem Ch.mul{h k:Nat}{p q:List Rat}(hp:Ch h p)(hq:Ch k q)(hl:p.length≤4294967295):Ch (h+k+1) (mulL p q):=by
 obtain⟨D,d1,d2,d3⟩:=hp
 obtain⟨E,e1,e2,e3⟩:=hq
 have bd:∀(m:Int) (j:Nat),wl m≤j→m.natAbs≤4294967296^j:=by
  intro m j hm
  have h1:=lt_of_len m.natAbs
  have h2:=pow_le (a:=(words m.natAbs).length) (b:=j) hm
  omega
 have key:=mul_num (q:=q) (Dp:=D) (Dq:=E) (M:=4294967296^h) (K:=4294967296^k) (fun i=>by obtain⟨m,a,b⟩:=e3 i;exact⟨m,a,bd m k b⟩) p (fun i=>by obtain⟨m,a,b⟩:=d3 i;exact⟨m,a,bd m h b⟩)
 have hDE:wl (D*E)≤h+k:=by
  have:=wl_mul D E
  omega
 refine⟨D*E,Int.mul_ne_zero d1 e1,by omega,fun i => ?_⟩
 obtain⟨m,a,b⟩:=key i
 refine⟨m,a,len_of_lt ?_⟩
 rw[Nat.pow_add,Nat.pow_add,Nat.pow_one]
 have hP:0<4294967296^h*4294967296^k:=Nat.mul_pos (Nat.pow_pos (by omega)) (Nat.pow_pos (by omega))
 have h2:p.length*(4294967296^h*4294967296^k)≤4294967295*(4294967296^h*4294967296^k):=Nat.mul_le_mul_right _ hl
 generalize 4294967296^h*4294967296^k=P at *
 omega
end Go.Proofs.YtboilcfohmmpbaaGreatDoor.Sym
namespace Go.Proofs.YtboilcfohmmpbaaGreatDoor.Sym
open Go Path CInt Dt Rs
set_option linter.unusedVariables false
theorem monic_uniq{p q:List Rat}(hp:lastZ p=false)(hq:lastZ q=false)(hp0:p≠[])(hq0:q≠[])(h1:Dv p q)(h2:Dv q p):monicL p=monicL q:=by
 have l1:=(h1.len hp hq hq0).2
 have l2:=(h2.len hq hp hp0).2
 obtain⟨u,hu⟩:=h1
 have hu':∀x,evalL q x=evalL (trimL u) x*evalL p x:=fun x=>by rw[evalL_trimL];exact hu x
 have hu0:trimL u≠[]:=fun e=>by
  have h3:∀x,evalL q x=evalL [] x:=fun x=>by rw[hu' x,e];show(0:Rat)*_=0;grind
  have h4:=eval_ext h3
  have h5:trimL q=q:=coef_inj (lastZ_trimL q) hq (coef_trimL q)
  rw[h5] at h4;exact hq0 h4
 have hl:=top_mul_len hq (lastZ_trimL u) hp hu0 hp0 hu'
 have hpl:=List.length_pos_iff.2 hp0
 have hul:=List.length_pos_iff.2 hu0
 obtain⟨c,hc⟩:∃c,trimL u=[c]:=List.length_eq_one_iff.1 (by omega)
 have hc0:c≠0:=fun e=>by
  have:=top_ne (lastZ_trimL u) hu0
  rw[hc] at this
  exact this e
 have hqs:q=smulL c p:=coef_inj hq (smulL_eval_inj hp c hc0) (eval_coef (fun x=>by rw[hu' x,hc,eval_c,evalL_smulL]))
 rw[hqs,monicL_smul hp hc0]
def bzF:Nat→List Rat→List Rat→List Rat→List Rat→List Rat×List Rat
 |0,a,_,x,_=>(a,x)
 |n+1,a,b,x,y=>if b.length=0 then (a,x) else bzF n b (restL a b) y (trimL (addL x (smulL (-1) (trimL (mulL (divL a b).1 y)))))
theorem bzF_dv:∀(n:Nat) (a b x y:List Rat),lastZ a=false→lastZ b=false→b.length<n→a≠[]∨b≠[] →
  lastZ (bzF n a b x y).1=false∧(bzF n a b x y).1≠[]∧Dv (bzF n a b x y).1 a∧Dv (bzF n a b x y).1 b∧(∃u v,∀z,evalL (bzF n a b x y).1 z=evalL u z*evalL a z+evalL v z*evalL b z)
 |0,a,b,x,y,_,_,h,_=>by omega
 |n+1,a,b,x,y,za,zb,h,hab=>by
  unfold bzF
  by_cases hb:b.length=0
  ·rw[if_pos hb]
   have hb0:b=[]:=List.eq_nil_of_length_eq_zero hb
   subst hb0
   refine⟨za,hab.resolve_right (fun h=>h rfl),Dv.refl a,⟨[],fun x=>by show(0:Rat)=0*_;grind⟩,[1],[],fun z=>by show evalL a z=(0*z+1)*evalL a z+0*0;grind⟩
  ·rw[if_neg hb]
   have hb0:b≠[]:=fun e=>hb (by rw[e];rfl)
   have hl:=(divL_spec a zb hb0).1
   obtain⟨g1,g2,g3,g4,u,v,g5⟩:=bzF_dv n b (restL a b) y (trimL (addL x (smulL (-1) (trimL (mulL (divL a b).1 y))))) zb (restL_trim a b) (by unfold restL;omega) (Or.inl hb0)
   have he:=fun z=>rest_eval (P:=a) zb hb0 z
   obtain⟨s,hs⟩:=g3
   obtain⟨t,ht⟩:=g4
   refine⟨g1,g2,⟨addL (mulL (divL a b).1 s) t,fun z=>by rw[←he z,hs,ht,evalL_addL,evalL_mulL];grind⟩,⟨s,hs⟩,v,addL u (smulL (-1) (mulL v (divL a b).1)),fun z => ?_⟩
   rw[g5 z,evalL_addL,evalL_smulL,evalL_mulL]
   have:=he z
   grind
def bzK:Nat:=63*xB 7 63 8+60
structure BzI (n:Nat) (a b x y:List Rat) (C l:Nat):Prop where
 zx:lastZ x=false
 zy:lastZ y=false
 cx:Ch C x
 cy:Ch C y
 c1:1≤C
 lx:x.length≤l
 ly:y.length≤l
 big:(C+bzK)*2^n≤1073741824
 ll:l+6*n≤50
theorem bzK_ge:63*xB 7 63 8+50≤bzK∧bzK≤2000000:=by constructor<;>decide
theorem bz_step{n:Nat}{a b x y:List Rat}{C l K:Nat}(I:BzI (n+1) a b x y C l)(za:lastZ a=false)(zb:lastZ b=false)(hb0:b≠[])(hK:K≤xB 7 63 8)(hK1:1≤K)(ca:Ch K a)(cb:Ch K b)(la:a.length≤6)(lb:b.length≤6) :
  BzI n b (restL a b) y (trimL (addL x (smulL (-1) (trimL (mulL (divL a b).1 y))))) (2*C+bzK) (l+6) ∧
  (divL a b).1.length≤6∧Fl (9*xB 7 63 8+7) (divL a b).1∧Fl (C+bzK) (trimL (mulL (divL a b).1 y))∧(trimL (mulL (divL a b).1 y)).length≤6+l∧C+bzK≤1073741824∧l≤50:=by
 have hbl:=List.length_pos_iff.2 hb0
 have hq:=ht_quot ca cb hK1 hK1 zb hb0
 have hql:=divL_len (p:=a) zb hb0
 have hk6:=bzK_ge
 generalize hX:xB 7 63 8=X at *
 have hm1:(a.length+1-b.length)*(K+1)≤6*(K+1):=Nat.mul_le_mul_right _ (by omega)
 have hqf:Fl (9*X+7) (divL a b).1:=fl_mono hq (by omega)
 have hqc:Ch (63*X+50) (divL a b).1:=(Ch.of_fl hqf).mono (by
  have:(divL a b).1.length*(9*X+7)≤6*(9*X+7):=Nat.mul_le_mul_right _ (by omega)
  omega)
 have hmc:Ch (63*X+50+C+1) (trimL (mulL (divL a b).1 y)):=(Ch.mul hqc I.cy (by omega)).trim
 have hml:(trimL (mulL (divL a b).1 y)).length≤6+l:=by
  have h1:(trimL (mulL (divL a b).1 y)).length≤(mulL (divL a b).1 y).length:=len_trimL _
  have h2:=len_mulL (divL a b).1 y
  have:=I.ly
  omega
 have hsc:Ch (63*X+50+C+1+1) (smulL (-1) (trimL (mulL (divL a b).1 y))):=hmc.smul (by decide)
 have hac:Ch (C+(63*X+50+C+1+1)+1) (trimL (addL x (smulL (-1) (trimL (mulL (divL a b).1 y))))):=(I.cx.add hsc).trim
 have hbig:=I.big
 rw[Nat.pow_succ] at hbig
 have hp:1≤2^n:=Nat.pow_pos (by omega)
 have hle:C+bzK≤(C+bzK)*(2^n*2):=Nat.le_mul_of_pos_right _ (by omega)
 have hll:=I.ll
 have hK50:63*X+53≤bzK:=by
  have:bzK=63*X+60:=by unfold bzK;rw[hX]
  omega
 refine⟨⟨I.zy,lastZ_trimL _,I.cy.mono (by omega),hac.mono (by omega),by omega,by have:=I.ly;omega,?_,?_,by omega⟩,by omega,hqf,?_,hml,by omega,by omega⟩
 ·have h1:(trimL (addL x (smulL (-1) (trimL (mulL (divL a b).1 y))))).length≤(addL x (smulL (-1) (trimL (mulL (divL a b).1 y)))).length:=len_trimL _
  rw[len_addL,len_smulL] at h1
  have:=I.lx
  omega
 ·have e:(2*C+bzK+bzK)*2^n=(C+bzK)*(2^n*2):=by
   rw[show 2*C+bzK+bzK=(C+bzK)*2 by omega,Nat.mul_assoc,Nat.mul_comm 2 (2^n)]
  rw[e];exact hbig
 ·exact hmc.fl (by omega) |> fun h=>fl_mono h (by omega)
namespace CRsP
theorem euclid_end{a x:List Rat}{K C:Nat}(za:lastZ a=false)(ha0:a≠[])(ca:Ch K a)(hK1:1≤K)(hK:K≤1000000)(la:a.length≤6)(zx:lastZ x=false)(cx:Ch C x)(c1:1≤C)(hC:C≤1073741824)(lx:x.length≤60)(y:List ARat) :
  resultant_euclid.Loop1 (a.map mkR) [] (x.map mkR) y (.tup [pq (trimL (smulL (1/topL a) x)),pq (monicL a),.nilI]):=by
 have hal:=List.length_pos_iff.2 ha0
 have hta:=ht_top ca hK1
 have hd:=ht_div 1 (topL a)
 have h11:ht 1=1:=by decide
 exact resultant_euclid.l14 (a.map mkR) [] (x.map mkR) y (mkR 1) (a.length-1) (mkR (topL a)) (mkR (1/topL a)) _ _ none (Nat.le_refl _) (CFr.Of 1 ⟨by decide,by decide⟩) (by rw[lenM];unfold InI64;omega) (by rw[lenM];omega) (getM (getTop ha0)) (QF.Div 1 (topL a) (by omega) (by omega) (top_ne za ha0))
  (PQ.Scale x (1/topL a) zx (by omega) (cx.fl c1) (d:=K+1) (by omega) c1 (by omega)) (PQ.Scale a (1/topL a) za (by omega) (ca.fl hK1) (d:=K+1) (by omega) hK1 (by omega))
theorem euclid_loop:∀(n:Nat) (i j:Nat) (a b x y:List Rat) (C l:Nat),b.length<n→Euc 7 63 6 i j a b→a.length≤6→BzI n a b x y C l →
  resultant_euclid.Loop1 (a.map mkR) (b.map mkR) (x.map mkR) (y.map mkR) (.tup [pq (trimL (smulL (1/topL (bzF n a b x y).1) (bzF n a b x y).2)),pq (monicL (bzF n a b x y).1),.nilI])
 |0,i,j,a,b,x,y,C,l,h,_,_,_=>by omega
 |n+1,i,j,a,b,x,y,C,l,h,e,la,I=>by
  have hx8:∀k,k≤8→xB 7 63 k≤xB 7 63 8:=fun k hk=>xB_le 7 63 (by omega) hk
  have hidx:=e.idx
  have hlt:=e.lt
  have hlen:=e.len
  unfold bzF
  by_cases hb:b.length=0
  ·rw[if_pos hb]
   have hb0:b=[]:=List.eq_nil_of_length_eq_zero hb
   subst hb0
   have hbig:=I.big
   have hp:1≤2^(n+1):=Nat.pow_pos (by omega)
   have hle:C+bzK≤(C+bzK)*2^(n+1):=Nat.le_mul_of_pos_right _ (by omega)
   have hll:=I.ll
   exact euclid_end e.zp (fun e2=>by rw[e2] at hlen;simp at hlen) e.hp (xB_pos (by omega) (by omega) i) (Nat.le_trans (hx8 i (by omega)) (by decide)) la I.zx I.cx I.c1 (by omega) (by have:=I.lx;omega) _
  ·rw[if_neg hb]
   have hb0:b≠[]:=fun e2=>hb (by rw[e2];rfl)
   obtain⟨r1,r2⟩:=e.rest (by omega) hb0
   have hbd:=e.bound
   have hK:=hx8 (max i j) (by omega)
   have ki:xB 7 63 i≤xB 7 63 (max i j):=xB_le 7 63 (by omega) (by omega)
   have kj:xB 7 63 j≤xB 7 63 (max i j):=xB_le 7 63 (by omega) (by omega)
   obtain⟨I2,s1,s2,s3,s4,s5,s6⟩:=bz_step I e.zp e.zq hb0 hK (xB_pos (by omega) (by omega) _) (e.hp.mono ki) (e.hq.mono kj) la (by omega)
   have hd:=(CPl.next (a:=7) (b:=63) (N:=6) (by omega) (by omega) (by omega) (by decide) e hb0).1
   have hX:xB 7 63 8≤30000:=by decide
   have hly:=I.ly
   have hlx:=I.lx
   refine resultant_euclid.l10 _ _ _ _ _ _ _ _ (by rw[lenM];omega) hd (PQ.Mul 6 (divL a b).1 y (divL_trim a b).1 I.zy (by omega) (by omega) s2 (I.cy.fl I.c1) (by omega) I.c1 (Or.inl s1) (by omega) (by omega)) (PQ.Sub x (trimL (mulL (divL a b).1 y)) I.zx (lastZ_trimL _) (by omega) (by omega) (I.cx.fl I.c1) s3 I.c1 (by have:=I.c1;omega) (by omega)) ?_
   exact euclid_loop n _ _ b (restL a b) y _ _ _ (by omega) (e.next (by omega) hb0 r1 r2 (restL_trim a b)) (by omega) I2
end CRsP
structure Bz (p q:List Rat):Prop where
 zp:lastZ p=false
 zq:lastZ q=false
 lp:p.length≤6
 lq:q.length≤6
 fp:Fl 1 p
 fq:Fl 1 q
theorem Bz.cp{p q:List Rat}(h:Bz p q):Ch 7 p:=(Ch.of_fl h.fp).mono (by have:=h.lp;omega)
theorem Bz.cq{p q:List Rat}(h:Bz p q):Ch 7 q:=(Ch.of_fl h.fq).mono (by have:=h.lq;omega)
abbrev bzA(p q:List Rat):List Rat×List Rat:=bzF (q.length+2) p q [1] []
theorem Bz.start{p q:List Rat}(h:Bz p q):BzI (q.length+2) p q [1] [] 2 1:=by
 have hlq:=h.lq
 refine⟨by decide,rfl,(Ch.of_fl (k:=1) (p:=[1]) (fun x hx=>by simp at hx;subst hx;decide)).mono (by decide),Ch.nil (by omega),by omega,by simp,by simp,?_,by omega⟩
 have h1:2^(q.length+2)≤2^8:=Nat.pow_le_pow_right (by omega) (by omega)
 have h2:=bzK_ge
 have h2':=h2.2
 generalize bzK=B at h2' ⊢
 have h3:(2+B)*2^(q.length+2)≤(2+B)*256:=Nat.mul_le_mul_left _ h1
 omega
theorem Bz.gcd{p q:List Rat}(h:Bz p q)(hq0:q≠[]):monicL (bzA p q).1=gcdL p q:=by
 obtain⟨g1,g2,g3,g4,u,v,g5⟩:=bzF_dv (q.length+2) p q [1] [] h.zp h.zq (by omega) (Or.inr hq0)
 have hg:=gcdL_trim p q
 have hm:monicL (gcdL p q)=gcdL p q:=monicL_idem (gcdF_trim _ _ _ h.zp h.zq)
 obtain⟨d1,d2⟩:=gcdL_dv p q h.zp h.zq
 obtain⟨u',v',b1⟩:=gcdL_bez p q h.zp h.zq
 have hg0:gcdL p q≠[]:=by
  refine monicL_ne (gcdF_trim _ _ _ h.zp h.zq) (gcdF_ne _ _ _ ?_)
  exact Or.inr ⟨hq0,by omega⟩
 rw[←hm]
 refine monic_uniq g1 hg g2 hg0 ?_ ?_
 ·obtain⟨s,hs⟩:=g3
  obtain⟨t,ht⟩:=g4
  exact⟨addL (mulL u' s) (mulL v' t),fun x=>by rw[b1 x,evalL_addL,evalL_mulL,evalL_mulL,hs,ht];grind⟩
 ·obtain⟨s,hs⟩:=d1
  obtain⟨t,ht⟩:=d2
  exact⟨addL (mulL u s) (mulL v t),fun x=>by rw[g5 x,evalL_addL,evalL_mulL,evalL_mulL,hs,ht];grind⟩
def bzU(p q:List Rat):List Rat:=trimL (smulL (1/topL (bzA p q).1) (bzA p q).2)
namespace CRsP
theorem euclid{p q:List Rat}(h:Bz p q)(hq0:q≠[]):Contract prg 77 [pq p,pq q] (.tup [pq (bzU p q),pq (gcdL p q),.nilI]):=by
 have hlp:=h.lp
 have hlq:=h.lq
 have hql:=List.length_pos_iff.2 hq0
 rw[←h.gcd hq0]
 refine resultant_euclid.e0 _ _ (mkR 1) (CFr.Of 1 ⟨by decide,by decide⟩) ?_
 have I:=h.start
 unfold bzU bzA
 obtain⟨I2,s1,s2,s3,s4,s5,s6⟩:=bz_step I h.zp h.zq hq0 (K:=7) (by decide) (by omega) h.cp h.cq hlp hlq
 have hd:=PQ.Div p q h.zp h.zq hq0 (by omega) (by omega) h.cp h.cq (by omega) (by omega) (by
  have:(p.length+1-q.length)*(7+1)≤6*(7+1):=Nat.mul_le_mul_right _ (by omega)
  omega)
 have hX:xB 7 63 8≤30000:=by decide
 refine resultant_euclid.l10 (p.map mkR) (q.map mkR) [mkR 1] [] _ _ _ _ (by rw[lenM];omega) hd (PQ.Mul 6 (divL p q).1 [] (divL_trim p q).1 rfl (by omega) (by simp) s2 (b:=1) (fun x hx=>by cases hx) (by omega) (by omega) (Or.inl s1) (by simp;omega) (by omega)) (PQ.Sub [1] (trimL (mulL (divL p q).1 [])) (by decide) (lastZ_trimL _) (by simp) (by omega) (a:=1) (fun x hx=>by simp at hx;subst hx;decide) s3 (by omega) (by have:=bzK_ge;omega) (by omega)) ?_
 rw[show bzF (q.length+2) p q [1] []=bzF (q.length+1) q (restL p q) [] (trimL (addL [1] (smulL (-1) (trimL (mulL (divL p q).1 []))))) from by rw[bzF,if_neg (by omega)]]
 have hr:Ch 63 (restL p q):=(h.cp.rest h.cq h.zq hq0).mono (by
  have:(p.length+1-q.length)*(7+1)≤6*(7+1):=Nat.mul_le_mul_right _ (by omega)
  omega)
 have hrl:(restL p q).length<q.length:=(divL_spec p h.zq hq0).1
 exact euclid_loop (q.length+1) 0 1 q (restL p q) [] _ _ _ (by omega) ⟨h.cq,hr,by omega,hrl,by omega,h.zq,restL_trim p q⟩ hlq I2
end CRsP
end Go.Proofs.YtboilcfohmmpbaaGreatDoor.Sym
namespace Go.Proofs.YtboilcfohmmpbaaGreatDoor.Sym
open Go Path CInt Dt Rs
set_option linter.unusedVariables false
theorem dv_rest0{p q:List Rat}(h:Dv q p)(hz:lastZ q=false)(h0:q≠[]):restL p q=[]:=by
 obtain⟨u,hu⟩:=h
 have hl:=List.length_pos_iff.2 h0
 refine coef_inj (restL_trim p q) rfl (fun i => ?_)
 exact rem_coef (a:=u) (r:=[]) hz h0 (by simpa using hl) (fun x=>by rw[hu x];show _+(0:Rat)=_;grind) i
theorem bz_fin:∀(n:Nat) (i j:Nat) (a b x y:List Rat) (C l:Nat),b.length<n→Euc 7 63 6 i j a b→a.length≤6→BzI n a b x y C l →
  lastZ (bzF n a b x y).2=false∧Ch 1073741824 (bzF n a b x y).2∧(bzF n a b x y).2.length≤50∧Ch 30000 (bzF n a b x y).1∧(bzF n a b x y).1.length≤6
 |0,i,j,a,b,x,y,C,l,h,_,_,_=>by omega
 |n+1,i,j,a,b,x,y,C,l,h,e,la,I=>by
  have hx8:∀k,k≤8→xB 7 63 k≤xB 7 63 8:=fun k hk=>xB_le 7 63 (by omega) hk
  have hX:xB 7 63 8≤30000:=by decide
  have hidx:=e.idx
  have hlt:=e.lt
  have hlen:=e.len
  unfold bzF
  by_cases hb:b.length=0
  ·rw[if_pos hb]
   have hbig:=I.big
   have hp:1≤2^(n+1):=Nat.pow_pos (by omega)
   have hle:C+bzK≤(C+bzK)*2^(n+1):=Nat.le_mul_of_pos_right _ (by omega)
   have hll:=I.ll
   exact⟨I.zx,I.cx.mono (by omega),(by have:=I.lx;show x.length≤50;omega),e.hp.mono (Nat.le_trans (hx8 i (by omega)) hX),la⟩
  ·rw[if_neg hb]
   have hb0:b≠[]:=fun e2=>hb (by rw[e2];rfl)
   obtain⟨r1,r2⟩:=e.rest (by omega) hb0
   have hbd:=e.bound
   have hK:=hx8 (max i j) (by omega)
   have ki:xB 7 63 i≤xB 7 63 (max i j):=xB_le 7 63 (by omega) (by omega)
   have kj:xB 7 63 j≤xB 7 63 (max i j):=xB_le 7 63 (by omega) (by omega)
   obtain⟨I2, -⟩:=bz_step I e.zp e.zq hb0 hK (xB_pos (by omega) (by omega) _) (e.hp.mono ki) (e.hq.mono kj) la (by omega)
   exact bz_fin n _ _ b (restL a b) y _ _ _ (by omega) (e.next (by omega) hb0 r1 r2 (restL_trim a b)) (by omega) I2
theorem bzF_id{P Q:List Rat} : ∀(n:Nat) (a b x y:List Rat),b.length<n→lastZ b=false→(∃w,∀z,evalL a z=evalL x z*evalL P z+evalL w z*evalL Q z)→(∃w,∀z,evalL b z=evalL y z*evalL P z+evalL w z*evalL Q z) →
  ∃w,∀z,evalL (bzF n a b x y).1 z=evalL (bzF n a b x y).2 z*evalL P z+evalL w z*evalL Q z
 |0,a,b,x,y,h,_,_,_=>by omega
 |n+1,a,b,x,y,h,zb,ha,hb=>by
  unfold bzF
  by_cases hb1:b.length=0
  ·rw[if_pos hb1];exact ha
  ·rw[if_neg hb1]
   have hb0:b≠[]:=fun e=>hb1 (by rw[e];rfl)
   have hl:=(divL_spec a zb hb0).1
   refine bzF_id n b (restL a b) y _ (by unfold restL;omega) (restL_trim a b) hb ?_
   obtain⟨w1,h1⟩:=ha
   obtain⟨w2,h2⟩:=hb
   refine⟨addL w1 (smulL (-1) (mulL (divL a b).1 w2)),fun z => ?_⟩
   have he:=rest_eval (P:=a) zb hb0 z
   have h1:=h1 z
   have h2:=h2 z
   rw[evalL_trimL,evalL_addL,evalL_smulL,evalL_trimL,evalL_mulL,evalL_addL,evalL_smulL,evalL_mulL]
   grind
abbrev bzM(p q:List Rat):List Rat:=(divL q (gcdL p q)).1
def bzu(p q:List Rat):List Rat:=restL (bzU p q) (bzM p q)
def bzD(p q:List Rat):List Rat:=lessL (gcdL p q) (timL (bzu p q) p)
def bzv(p q:List Rat):List Rat:=(divL (trimL (bzD p q)) q).1
structure BzR (p q:List Rat):Prop where
 zg:lastZ (gcdL p q)=false
 g0:gcdL p q≠[]
 lg:(gcdL p q).length≤6
 cg:Ch 30000 (gcdL p q)
 zm:lastZ (bzM p q)=false
 m0:bzM p q≠[]
 lm:(bzM p q).length≤6
 cm:Ch 1260079 (bzM p q)
 zU:lastZ (bzU p q)=false
 lU:(bzU p q).length≤50
 cU:Ch 1073771826 (bzU p q)
 zu:lastZ (bzu p q)=false
 lu:(bzu p q).length≤5
 cu:Ch 1140000000 (bzu p q)
 ct:Ch 1140000008 (timL (bzu p q) p)
 lt:(timL (bzu p q) p).length≤11
 cd:Ch 1140030010 (bzD p q)
 ld:(bzD p q).length≤11
 zv:lastZ (bzv p q)=false
 lv:(bzv p q).length≤12
 fv:Fl 1140030200 (bzv p q)
 id:∀z,evalL (bzu p q) z*evalL p z+evalL (bzv p q) z*evalL q z=evalL (gcdL p q) z
theorem Bz.fin{p q:List Rat}(h:Bz p q)(hq0:q≠[]):lastZ (bzA p q).2=false∧Ch 1073741824 (bzA p q).2∧(bzA p q).2.length≤50∧Ch 30000 (bzA p q).1∧(bzA p q).1.length≤6:=by
 have hlp:=h.lp
 have hlq:=h.lq
 have hql:=List.length_pos_iff.2 hq0
 have I:=h.start
 unfold bzA
 obtain⟨I2,s1,s2,s3,s4,s5,s6⟩:=bz_step I h.zp h.zq hq0 (K:=7) (by decide) (by omega) h.cp h.cq hlp hlq
 rw[show bzF (q.length+2) p q [1] []=bzF (q.length+1) q (restL p q) [] (trimL (addL [1] (smulL (-1) (trimL (mulL (divL p q).1 []))))) from by rw[bzF,if_neg (by omega)]]
 have hr:Ch 63 (restL p q):=(h.cp.rest h.cq h.zq hq0).mono (by
  have:(p.length+1-q.length)*(7+1)≤6*(7+1):=Nat.mul_le_mul_right _ (by omega)
  omega)
 have hrl:(restL p q).length<q.length:=(divL_spec p h.zq hq0).1
 exact bz_fin (q.length+1) 0 1 q (restL p q) [] _ _ _ (by omega) ⟨h.cq,hr,by omega,hrl,by omega,h.zq,restL_trim p q⟩ hlq I2
theorem Bz.res{p q:List Rat}(h:Bz p q)(hq0:q≠[]):BzR p q:=by
 have hlp:=h.lp
 have hlq:=h.lq
 have hql:=List.length_pos_iff.2 hq0
 obtain⟨f1,f2,f3,f4,f5⟩:=h.fin hq0
 obtain⟨a1,a2, -, -, -⟩:=bzF_dv (q.length+2) p q [1] [] h.zp h.zq (by omega) (Or.inr hq0)
 have hgcd:=h.gcd hq0
 have zg:=gcdL_trim p q
 have g0:gcdL p q≠[]:=by rw[←hgcd];exact monicL_ne a1 a2
 have lg:(gcdL p q).length≤6:=by rw[←hgcd,monicL_len a1];exact f5
 have cg:Ch 30000 (gcdL p q):=by rw[←hgcd];exact f4.monic (by omega) a1
 obtain⟨d1,d2⟩:=gcdL_dv p q h.zp h.zq
 have zm:lastZ (bzM p q)=false:=(divL_trim _ _).1
 have rq:restL q (gcdL p q)=[]:=dv_rest0 d2 zg g0
 have eq:∀z,evalL q z=evalL (bzM p q) z*evalL (gcdL p q) z:=fun z=>by
  have:=rest_eval (P:=q) zg g0 z
  rw[rq] at this
  change _+(0:Rat)=_ at this
  grind
 have m0:bzM p q≠[]:=fun e=>by
  have h4:trimL q=trimL []:=eval_ext (fun z=>by rw[eq z,e];show(0:Rat)*_=0;grind)
  have h5:trimL q=q:=coef_inj (lastZ_trimL q) h.zq (coef_trimL q)
  rw[h5] at h4
  exact hq0 h4
 have hgl:=List.length_pos_iff.2 g0
 have lm:(bzM p q).length≤6:=by have:(bzM p q).length≤_:=divL_len (p:=q) zg g0;omega
 have fm:Fl 210013 (bzM p q):=fl_mono (ht_quot h.cq cg (by omega) (by omega) zg g0) (by
  have:(q.length+1-(gcdL p q).length)*(30000+1)≤6*(30000+1):=Nat.mul_le_mul_right _ (by omega)
  omega)
 have cm:Ch 1260079 (bzM p q):=(Ch.of_fl fm).mono (Nat.le_trans (Nat.add_le_add_right (Nat.mul_le_mul_right 210013 lm) 1) (by decide))
 have zU:lastZ (bzU p q)=false:=lastZ_trimL _
 have lU:(bzU p q).length≤50:=by
  have h1:∀c:Rat,(trimL (smulL c (bzA p q).2)).length≤50:=fun c=>by
   have:=len_trimL (smulL c (bzA p q).2)
   rw[len_smulL] at this
   omega
  exact h1 _
 have hta:=ht_top f4 (by omega)
 have hd:=ht_div 1 (topL (bzA p q).1)
 have h11:Sym.ht 1=1:=by decide
 have cU:Ch 1073771826 (bzU p q):=((f2.smul (k:=30002) (c:=1/topL (bzA p q).1) (by omega)).trim).mono (by omega)
 have zu:lastZ (bzu p q)=false:=restL_trim _ _
 have hml:=List.length_pos_iff.2 m0
 have lu:(bzu p q).length≤5:=by
  have:(bzu p q).length≤(bzM p q).length-1:=rest_len zm m0
  omega
 have cu:Ch 1140000000 (bzu p q):=(cU.rest cm zm m0).mono (by
  have:((bzU p q).length+1-(bzM p q).length)*(1260079+1)≤50*(1260079+1):=Nat.mul_le_mul_right _ (by omega)
  omega)
 have ct:Ch 1140000008 (timL (bzu p q) p):=(Ch.mul cu h.cp (by omega)).congr (fun i=>(timL_coef _ _ i).symm)
 have lt:(timL (bzu p q) p).length≤11:=by have:=timL_len (bzu p q) p;omega
 have cd:Ch 1140030010 (bzD p q):=by
  refine((cg.add (ct.smul (k:=1) (c := -1) (by decide))).congr (fun i => ?_)).mono (by omega)
  unfold bzD
  rw[lessL_coef,coef_addL,coef_smulL]
  grind
 have ld:(bzD p q).length≤11:=by unfold bzD;rw[lessL_len];omega
 have ltd:(trimL (bzD p q)).length≤11:=Nat.le_trans (len_trimL _) ld
 have zv:lastZ (bzv p q)=false:=(divL_trim _ _).1
 have lv:(bzv p q).length≤12:=by
  have:(bzv p q).length≤_:=divL_len (p:=trimL (bzD p q)) h.zq hq0
  omega
 have fv:Fl 1140030200 (bzv p q):=fl_mono (ht_quot cd.trim h.cq (by omega) (by omega) h.zq hq0) (by
  have:((trimL (bzD p q)).length+1-q.length)*(7+1)≤11*(7+1):=Nat.mul_le_mul_right _ (by omega)
  omega)
 refine⟨zg,g0,lg,cg,zm,m0,lm,cm,zU,lU,cU,zu,lu,cu,ct,lt,cd,ld,zv,lv,fv,?_⟩
 obtain⟨w,hw⟩:=bzF_id (P:=p) (Q:=q) (q.length+2) p q [1] [] (by omega) h.zq ⟨[],fun z=>by show _=(0*z+1)*_+0*_;grind⟩ ⟨[1],fun z=>by show _=0*_+(0*z+1)*_;grind⟩
 obtain⟨p',hp'⟩:=d1
 have eU:∀z,evalL (bzU p q) z=1/topL (bzA p q).1*evalL (bzA p q).2 z:=fun z=>by unfold bzU;rw[evalL_trimL,evalL_smulL]
 have eg:∀z,evalL (gcdL p q) z=1/topL (bzA p q).1*evalL (bzA p q).1 z:=fun z=>by rw[←hgcd,monicL_eval]
 have eu:=fun z=>rest_eval (P:=bzU p q) zm m0 z
 have ed:∀z,evalL (bzD p q) z=evalL (gcdL p q) z-evalL (bzu p q) z*evalL p z:=fun z=>by
  have e1:trimL (bzD p q)=trimL (addL (gcdL p q) (smulL (-1) (mulL (bzu p q) p))):=trimL_ext (fun i=>by unfold bzD;rw[lessL_coef,timL_coef,coef_addL,coef_smulL];grind)
  rw[←evalL_trimL,e1,evalL_trimL,evalL_addL,evalL_smulL,evalL_mulL]
  grind
 have hdv:Dv q (trimL (bzD p q)):=by
  refine⟨addL (smulL (1/topL (bzA p q).1) w) (mulL (divL (bzU p q) (bzM p q)).1 p'),fun z => ?_⟩
  have t1:=hw z
  have t2:=hp' z
  have t3:=eu z
  have t4:=eq z
  have t5:=eU z
  have t6:=eg z
  rw[evalL_trimL,ed z,evalL_addL,evalL_smulL,evalL_mulL]
  change evalL _ z*evalL _ z+evalL (bzu p q) z=_ at t3
  change evalL (bzA p q).1 z=evalL (bzA p q).2 z*_+_ at t1
  generalize 1/topL (bzA p q).1=c at *
  generalize evalL (bzA p q).1 z=A at *
  generalize evalL (bzA p q).2 z=X at *
  generalize evalL (bzU p q) z=U at *
  generalize evalL (bzu p q) z=u at *
  generalize evalL (bzM p q) z=M at *
  generalize evalL (gcdL p q) z=g at *
  generalize evalL (divL (bzU p q) (bzM p q)).1 z=k at *
  generalize evalL p z=Pz at *
  generalize evalL q z=Qz at *
  generalize evalL w z=W at *
  generalize evalL p' z=P' at *
  have s1:u=U-k*M:=by grind
  have s2:k*M*Pz=k*P'*Qz:=by rw[t2,t4];grind
  have s3:g=U*Pz+c*W*Qz:=by rw[t6,t1,t5];grind
  rw[s1,s3]
  grind
 have rv:restL (trimL (bzD p q)) q=[]:=dv_rest0 hdv h.zq hq0
 intro z
 have e2:=rest_eval (P:=trimL (bzD p q)) h.zq hq0 z
 rw[rv,evalL_trimL,ed z] at e2
 change evalL (bzv p q) z*_+(0:Rat)=_ at e2
 grind
namespace CRsP
theorem checks0{p q:List Rat}(zp:lastZ p=false)(zq:lastZ q=false)(lp:p.length≤65)(lq:q.length≤65)(fp:Fl 68719476736 p)(fq:Fl 68719476736 q):Contract prg 43 [lpv (lcell ARat.cells) [p.map mkR,q.map mkR]] .nilI:=by
 have:=CRs.checks [p.map mkR,q.map mkR] (by simp) (fun l hl=>by
  simp at hl
  rcases hl with rfl|rfl
  ·exact fitQ fp (by omega)
  ·exact fitQ fq (by omega))
 rwa[show chkL [p.map mkR,q.map mkR]=0 from by unfold chkL chkL chkL;rw[chk_map zp lp,chk_map zq lq];rfl] at this
theorem BezoutQ{p q:List Rat}(h:Bz p q)(hq0:q≠[]):Contract prg 35 [pq p,pq q] (.tup [pq (bzu p q),pq (bzv p q),pq (gcdL p q),.nilI]):=by
 have hlp:=h.lp
 have hlq:=h.lq
 have hql:=List.length_pos_iff.2 hq0
 have R:=h.res hq0
 have hgl:=List.length_pos_iff.2 R.g0
 have hml:=List.length_pos_iff.2 R.m0
 have lm:=R.lm
 have lu:=R.lu
 have lU:=R.lU
 have hc:=checks0 h.zp h.zq (by omega) (by omega) (fl_mono h.fp (by omega)) (fl_mono h.fq (by omega))
 have he:=euclid h hq0
 have hd1:=PQ.Div q (gcdL p q) h.zq R.zg R.g0 (by omega) (by have:=R.lg;omega) h.cq R.cg (by omega) (by omega) (by
  have:(q.length+1-(gcdL p q).length)*(30000+1)≤6*(30000+1):=Nat.mul_le_mul_right _ (by omega)
  omega)
 have hd2:=PQ.Div (bzU p q) (bzM p q) R.zU R.zm R.m0 (by omega) (by omega) R.cU R.cm (by omega) (by omega) (by
  have:((bzU p q).length+1-(bzM p q).length)*(1260079+1)≤50*(1260079+1):=Nat.mul_le_mul_right _ (by omega)
  omega)
 have ht:Contract prg 81 [pq (bzu p q),pq p] (pq (timL (bzu p q) p)):=times 6 (bzu p q) p (by omega) (by omega) (R.cu.fl (by omega)) h.fp (by omega) (by omega) (Or.inl (by omega)) (by omega)
 have hl:Contract prg 80 [pq (gcdL p q),pq (timL (bzu p q) p)] (pq (bzD p q)):=less (gcdL p q) (timL (bzu p q) p) (by have:=R.lg;omega) (by have:=R.lt;omega) (R.cg.fl (by omega)) (R.ct.fl (by omega)) (by omega) (by omega) (by omega)
 have ltd:(trimL (bzD p q)).length≤11:=Nat.le_trans (len_trimL _) R.ld
 have hv:Contract prg 79 [pq (bzD p q),pq q] (.tup [pq (bzv p q),.nilI]):=quotient (bzD p q) (trimL (bzD p q)) q rfl R.cd (by have:=R.ld;omega) h.zq hq0 R.cd.trim h.cq (by omega) (by omega) (by omega) (by omega) (by
  have:((trimL (bzD p q)).length+1-q.length)*(7+1)≤11*(7+1):=Nat.mul_le_mul_right _ (by omega)
  omega)
 by_cases h0:p.length=0
 ·exact resultant_Bezout.e1 _ _ _ _ _ _ _ _ _ _ _ hc (by rw[lenM];exact h0) (by rw[lenM];omega) he hd1 hd2 ht hl hv
 ·exact resultant_Bezout.e8 _ _ _ _ _ _ _ _ _ _ _ hc (by rw[lenM];exact h0) (by rw[lenM];omega) he hd1 hd2 ht hl hv
theorem BezoutP{p:List Rat}(zp:lastZ p=false)(hp0:p≠[])(lp:p.length≤6)(fp:Fl 1 p):Contract prg 35 [pq p,pq []] (.tup [pq [1/topL p],pq [],pq (monicL p),.nilI]):=by
 have hpl:=List.length_pos_iff.2 hp0
 have hc:=checks0 (q:=[]) zp rfl (by omega) (by simp) (fl_mono fp (by omega)) (fun x hx=>by cases hx)
 have cp:Ch 7 p:=(Ch.of_fl fp).mono (by omega)
 have hta:=ht_top cp (by omega)
 have hd:=ht_div 1 (topL p)
 have h11:Sym.ht 1=1:=by decide
 have hs:=PQ.Scale p (1/topL p) zp (by omega) fp (d:=20) (by omega) (by omega) (by omega)
 rw[show trimL (smulL (1/topL p) p)=monicL p from rfl] at hs
 exact resultant_Bezout.e6 (p.map mkR) [] (mkR 1) (p.length-1) (mkR (topL p)) (mkR (1/topL p)) _ none hc (by rw[lenM];omega) rfl (CFr.Of 1 ⟨by decide,by decide⟩) (by rw[lenM];unfold InI64;omega) (by rw[lenM];omega) (getM (getTop hp0)) (QF.Div 1 (topL p) (by omega) (by omega) (top_ne zp hp0)) hs
theorem Bezout00:Contract prg 35 [pq [],pq []] (.tup [pq [],pq [],pq [],.iface 61 (vI 8)]) :=
 resultant_Bezout.e0 [] [] (checks0 (p:=[]) (q:=[]) rfl rfl (by simp) (by simp) (fun x hx=>by cases hx) (fun x hx=>by cases hx)) rfl rfl
theorem BezoutE{p q:List ARat}(hf:FitP 274877906944 p)(hg:FitP 274877906944 q)(h:chkL [p,q]≠0):Contract prg 35 [polyPV p,polyPV q] (.tup [pq [],pq [],pq [],.iface 61 (vI (chkL [p,q]))]):=by
 have:=CRs.checks [p,q] (by simp) (fun l hl=>by
  simp at hl
  rcases hl with rfl|rfl
  ·exact hf
  ·exact hg)
 rw[errOf_ne h] at this
 exact resultant_Bezout.e13 p q _ this
end CRsP
end Go.Proofs.YtboilcfohmmpbaaGreatDoor.Sym
namespace Go.Proofs.YtboilcfohmmpbaaGreatDoor.Sym
open Go Path CInt Dt Rs
set_option linter.unusedVariables false
theorem E_ht{n c B:Nat}{M:Mx}(hB:1≤B)(hc:c<n)(h:∀i k,i<n→k<n→ht (M i k)≤B):∀i k,i<n→k<n→ht (E c M i k)≤5*B:=by
 intro i k hi hk
 have h1:=h i k hi hk
 unfold E
 split
 ·have h2:=h i c hi hc
  have h3:=h c c hc hc
  have h4:=ht_div (M i c) (M c c)
  exact(ht_step hB h1 (h c k hc hk) (by omega)).2
 ·omega
theorem sw_ht{n r k B:Nat}{M:Mx}(hr:r<n)(hk:k<n)(h:∀i k,i<n→k<n→ht (M i k)≤B):∀i j,i<n→j<n→ht (sw r k M i j)≤B:=by
 intro i j hi hj
 unfold sw
 split
 ·exact h _ _ hk hj
 ·split
  ·exact h _ _ hr hj
  ·exact h _ _ hi hj
theorem detG_ht{n B0:Nat}(hB0:1≤B0):∀(f c:Nat) (out:Rat) (M:Mx),c+f=n→(∀i k,i<n→k<n→ht (M i k)≤5^c*B0)→ht out≤5^c*B0→ht (detG n f c out M)≤5^n*B0
 |0,c,out,M,hc,_,ho=>by
  have:c=n:=by omega
  subst this
  exact ho
 |f+1,c,out,M,hc,hM,ho=>by
  have hcn:c<n:=by omega
  have hpow:5^(c+1)*B0=5*(5^c*B0):=by rw[Nat.pow_succ,Nat.mul_comm (5^c) 5,Nat.mul_assoc]
  have hp1:1≤5^c*B0:=Nat.mul_pos (Nat.pow_pos (by omega)) hB0
  obtain⟨p1,p2,p3,p4⟩:=piv_spec M c (n-c) c
  have go:∀(o:Rat) (N:Mx),ht o≤5^c*B0→(∀i k,i<n→k<n→ht (N i k)≤5^c*B0)→ht (detG n f (c+1) (o*N c c) (E c N))≤5^n*B0:=by
   intro o N h1 h2
   refine detG_ht hB0 f (c+1) _ _ (by omega) ?_ ?_
   ·rw[hpow];exact E_ht hp1 hcn h2
   ·have h3:=ht_mul o (N c c)
    have h4:=h2 c c hcn hcn
    rw[hpow];omega
  unfold detG
  split
  ·have:1≤5^n*B0:=Nat.mul_pos (Nat.pow_pos (by omega)) hB0
   have h0:ht 0=1:=by decide
   omega
  ·rename_i hpn
   split
   ·exact go out M ho hM
   ·exact go (-out) _ (by rw[ht_neg];exact ho) (sw_ht (by omega) hcn hM)
theorem res_ht{p q:List Rat}{B:Nat}(hp:p≠[])(hq:q≠[])(fp:Fl B p)(fq:Fl B q)(hB:1≤B):ht (res p q)≤5^(p.length-1+(q.length-1))*B:=by
 unfold res
 rw[←detF_eq]
 unfold detF
 refine detG_ht hB _ 0 1 _ (by omega) (fun i k hi hk => ?_) ?_
 ·have:=syl_ht hp hq fp fq hB i k hi hk
  rw[Nat.pow_zero];omega
 ·rw[show ht 1=1 by decide,Nat.pow_zero];omega
structure RsOk (B:Nat) (p q:List Rat):Prop where
 zp:lastZ p=false
 zq:lastZ q=false
 p0:p≠[]
 q0:q≠[]
 lp:p.length≤65
 lq:q.length≤65
 l:p.length-1+(q.length-1)≤40
 fp:Fl B p
 fq:Fl B q
 B1:1≤B
 k:5^(p.length-1+(q.length-1)+1)*B≤68719476736
theorem RsOk.B{B:Nat}{p q:List Rat}(h:RsOk B p q):B≤68719476736:=by
 have:=h.k
 have h1:1*B≤5^(p.length-1+(q.length-1)+1)*B:=Nat.mul_le_mul_right _ (Nat.pow_pos (by omega))
 omega
theorem RsOk.ht{B:Nat}{p q:List Rat}(h:RsOk B p q):5*Sym.ht (Rs.res p q)≤68719476736:=by
 have h1:=res_ht h.p0 h.q0 h.fp h.fq h.B1
 have h2:=h.k
 rw[Nat.pow_succ,Nat.mul_comm _ 5,Nat.mul_assoc] at h2
 omega
theorem RsOk.mat{B:Nat}{p q:List Rat}(h:RsOk B p q):MatR (p.length-1+(q.length-1)) B (mkH (p.length-1+(q.length-1)) (p.length-1+(q.length-1))) (mkX (p.length-1+(q.length-1)) (p.length-1+(q.length-1)) (syl p q)) (syl p q):=mk_mat (syl_ht h.p0 h.q0 h.fp h.fq h.B1)
namespace CRsP
theorem SylvesterX{B:Nat}{p q:List Rat}(h:RsOk B p q) :
  ContractX prg 12 [.pv (pq p),.pv (pq q)] [] (.rowT 0 0 (mkH (p.length-1+(q.length-1)) (p.length-1+(q.length-1))).length 1 [.nilI]) [(0,.mats (mkH (p.length-1+(q.length-1)) (p.length-1+(q.length-1))) 3),(999999,.heap (hrows ARat.cells (mkX (p.length-1+(q.length-1)) (p.length-1+(q.length-1)) (syl p q))))] :=
 resultant_SylvesterM.e0 (p.map mkR) (q.map mkR) _ _ none (checks0 h.zp h.zq h.lp h.lq (fl_mono h.fp h.B) (fl_mono h.fq h.B)) (sylvester h.p0 h.q0 h.l h.fp h.fq h.B)
theorem ResultantQ{B:Nat}{p q:List Rat}(h:RsOk B p q):Contract prg 13 [pq p,pq q] (.tup [(mkR (res p q)).pv,.nilI]):=by
 have hl:=h.l
 have hd:=CDtP.det (by omega) h.B1 h.k h.mat
 rw[detF_eq] at hd
 exact resultant_Resultant.e0 (p.map mkR) (q.map mkR) _ _ (mkR (res p q)) none (SylvesterX h) hd
end CRsP
namespace CRsR
theorem both0{l:List (List ARat)}(hl:l.length≤1000)(hf:∀p∈l,FitP 274877906944 p)(h:chkL l=0):Contract prg 50 [lpv (lcell ARat.cells) l] (vI 0):=by
 have:=CRs.both l hl hf
 rwa[h] at this
theorem bothQ{p q:List Rat}(zp:lastZ p=false)(zq:lastZ q=false)(lp:p.length≤65)(lq:q.length≤65)(fp:Fl 68719476736 p)(fq:Fl 68719476736 q):Contract prg 50 [lpv (lcell ARat.cells) [p.map mkR,q.map mkR]] (vI 0) :=
 both0 (by simp) (fun l hl=>by
  simp at hl
  rcases hl with rfl|rfl
  ·exact fitQ fp (by omega)
  ·exact fitQ fq (by omega)) (by unfold chkL chkL chkL;rw[chk_map zp lp,chk_map zq lq];rfl)
end CRsR
theorem coef_deriveL(p:List Rat)(j:Nat):coef (deriveL p) j=((1+j:Nat):Int)*coef p (j+1):=by
 have hc2:∀(q:List Rat) (i j:Nat),coef (derI i q) j=((i+j:Nat):Int)*coef q j:=by
  intro q
  induction q with
  |nil=>intro i j;show(0:Rat)=_*0;grind
  |cons a q ih =>
   intro i j
   cases j with
   |zero=>show((i:Int):Rat)*a=_;rfl
   |succ j=>exact(ih (i+1) j).trans (by rw[show i+1+j=i+(j+1) by omega];rfl)
 unfold deriveL
 rw[coef_trimL,hc2]
 congr 1
 cases p with
 |nil=>rfl
 |cons a p=>rfl
theorem deriveL_length{p:List Rat}(hz:lastZ p=false)(h:2≤p.length):(deriveL p).length=p.length-1:=by
 have h1:=deriveL_lt2 (p:=p) (fun e=>by rw[e] at h;simp at h)
 refine Nat.le_antisymm (by omega) (Nat.le_of_not_lt fun hlt => ?_)
 have h2:coef (deriveL p) (p.length-2)=0:=coef_ge (by omega)
 rw[coef_deriveL,show p.length-2+1=p.length-1 by omega] at h2
 rcases Rat.mul_eq_zero.1 h2 with e|e
 ·have:((1+(p.length-2):Nat):Int)=0:=by exact_mod_cast e
  omega
 ·exact top_ne hz (fun e2=>by rw[e2] at h;simp at h) e
def discL(p:List Rat):Rat:=(if (p.length-1)*(p.length-1-1)/2%2=1 then -res p (deriveL p) else res p (deriveL p))/topL p
structure DsOk (p:List Rat):Prop where
 zp:lastZ p=false
 l2:2≤p.length
 l:p.length≤6
 fp:Fl 1 p
theorem DsOk.rs{p:List Rat}(h:DsOk p):RsOk 3 p (deriveL p):=by
 have h1:=h.l
 have h2:=h.l2
 have h3:=deriveL_length h.zp h.l2
 refine⟨h.zp,lastZ_deriveL p,fun e=>by rw[e] at h2;simp at h2,fun e=>by rw[e] at h3;simp at h3;omega,by omega,by omega,by omega,fl_mono h.fp (by omega),fl_deriveL (by omega) h.fp,by omega,?_⟩
 have h4:5^(p.length-1+((deriveL p).length-1)+1)≤5^10:=Nat.pow_le_pow_right (by omega) (by omega)
 have h5:5^(p.length-1+((deriveL p).length-1)+1)*3≤5^10*3:=Nat.mul_le_mul_right _ h4
 exact Nat.le_trans h5 (by decide)
theorem DsOk.num{p:List Rat}(h:DsOk p):(((p.length:Int)-1)*(((p.length:Int)-1)-1))=(((p.length-1)*(p.length-1-1):Nat):Int)∧(p.length-1)*(p.length-1-1)≤20:=by
 have h1:=h.l
 have h2:=h.l2
 have hm:(p.length-1)*(p.length-1-1)≤5*4:=Nat.mul_le_mul (by omega) (by omega)
 refine⟨?_,by omega⟩
 rw[Int.natCast_mul]
 congr 1<;>omega
theorem CRsP.DiscriminantQ{p:List Rat}(h:DsOk p):Contract prg 14 [pq p] (.tup [(mkR (discL p)).pv,.nilI]):=by
 have h1:=h.l
 have h2:=h.l2
 obtain⟨n1,n2⟩:=h.num
 have hp0:p≠[]:=fun e=>by rw[e] at h2;simp at h2
 have hR:=h.rs
 have hr:=hR.ht
 have hc:=CPo.Check (p.map mkR) (fitQ h.fp (by omega))
 rw[chk_map h.zp (by omega)] at hc
 have hd:=CPl.Degree (p.map mkR) (by simp;omega)
 rw[lenM] at hd
 have cp:Ch 7 p:=(Ch.of_fl h.fp).mono (by omega)
 have hta:=ht_top cp (by omega)
 have htn:=top_ne h.zp hp0
 unfold discL
 by_cases ho:(p.length-1)*(p.length-1-1)/2%2=1
 ·rw[if_pos ho]
  exact resultant_Discriminant.e2 (p.map mkR) _ _ _ ((p.length-1)*(p.length-1-1)) _ (p.length-1) (mkR (topL p)) _ none hc hd (by omega) (by omega) (PQ.Derive p h.zp (by omega) h.fp (by omega)) (CRsP.ResultantQ hR) (by unfold InI64;omega) (by rw[n1];unfold InI64;omega) n1 (by omega) ho (QF.Neg _ (by omega)) (by omega) (getM (getTop hp0)) (QF.Div _ _ (by rw[ht_neg];omega) (by omega) htn)
 ·rw[if_neg ho]
  exact resultant_Discriminant.e3 (p.map mkR) _ _ _ ((p.length-1)*(p.length-1-1)) (p.length-1) (mkR (topL p)) _ none hc hd (by omega) (by omega) (PQ.Derive p h.zp (by omega) h.fp (by omega)) (CRsP.ResultantQ hR) (by unfold InI64;omega) (by rw[n1];unfold InI64;omega) n1 (by omega) ho (by omega) (getM (getTop hp0)) (QF.Div _ _ (by omega) (by omega) htn)
end Go.Proofs.YtboilcfohmmpbaaGreatDoor.Sym
namespace Go.Proofs.YtboilcfohmmpbaaGreatDoor.Sym.Lay
open Go Go.Shelf Go.Proofs
set_option maxRecDepth 20000
def ren:Ren:=⟨fun n=>match n with|129=>185|156=>132|165=>153|166=>154|169=>156|171=>130|240=>175|241=>176|243=>150|246=>171|276=>182|277=>183|283=>178|284=>179|285=>180|286=>181|317=>184|318=>186|319=>187|320=>188|337=>189|338=>190|n=>n,
 fun n=>match n with|0=>0|2=>2|3=>3|4=>4|5=>5|9=>9|20=>20|31=>141|37=>155|46=>136|51=>77|53=>135|70=>154|72=>157|75=>28|76=>159|80=>162|127=>174|164=>180|171=>175|173=>178|212=>185|213=>186|232=>189|233=>190|n=>n,
 fun n=>match n with|17=>0|18=>2|19=>3|n=>n⟩
theorem lays156:Lays.n156 Tryz.prog ren where
 mixed:=by kernel_rfl
 f156:=Tryz.func132.trans (congrArg some (by kernel_rfl))
 f165:=Tryz.func153.trans (congrArg some (by kernel_rfl))
 f166:=Tryz.func154.trans (congrArg some (by kernel_rfl))
 f169:=Tryz.func156.trans (congrArg some (by kernel_rfl))
 f240:=Tryz.func175.trans (congrArg some (by kernel_rfl))
 f241:=Tryz.func176.trans (congrArg some (by kernel_rfl))
 f276:=Tryz.func182.trans (congrArg some (by kernel_rfl))
 f277:=Tryz.func183.trans (congrArg some (by kernel_rfl))
 t0:=Tryz.underlying0
 a0:=Tryz.isAgg0
 z0:=Tryz.sizeOf0
 v0:=Tryz.zeroValue0
 t3:=Tryz.underlying3
 a3:=Tryz.isAgg3
 z3:=Tryz.sizeOf3
 v3:=Tryz.zeroValue3
 t4:=Tryz.underlying4
 a4:=Tryz.isAgg4
 z4:=Tryz.sizeOf4
 v4:=Tryz.zeroValue4
 t9:=Tryz.underlying9
 a9:=Tryz.isAgg9
 z9:=Tryz.sizeOf9
 v9:=Tryz.zeroValue9
 t20:=Tryz.underlying20
 a20:=Tryz.isAgg20
 z20:=Tryz.sizeOf20
 v20:=Tryz.zeroValue20
 t31:=Tryz.underlying141
 a31:=Tryz.isAgg141
 z31:=Tryz.sizeOf141
 v31:=Tryz.zeroValue141
 t37:=Tryz.underlying155
 a37:=Tryz.isAgg155
 z37:=Tryz.sizeOf155
 v37:=Tryz.zeroValue155
 t70:=Tryz.underlying154
 a70:=Tryz.isAgg154
 z70:=Tryz.sizeOf154
 v70:=Tryz.zeroValue154
 t72:=Tryz.underlying157
 a72:=Tryz.isAgg157
 z72:=Tryz.sizeOf157
 v72:=Tryz.zeroValue157
 t75:=Tryz.underlying28
 a75:=Tryz.isAgg28
 z75:=Tryz.sizeOf28
 v75:=Tryz.zeroValue28
 t76:=Tryz.underlying159
 a76:=Tryz.isAgg159
 z76:=Tryz.sizeOf159
 v76:=Tryz.zeroValue159
 t127:=Tryz.underlying174
 a127:=Tryz.isAgg174
 z127:=Tryz.sizeOf174
 v127:=Tryz.zeroValue174
 t164:=Tryz.underlying180
 a164:=Tryz.isAgg180
 z164:=Tryz.sizeOf180
 v164:=Tryz.zeroValue180
theorem lays171:Lays.n171 Tryz.prog ren where
 mixed:=by kernel_rfl
 f129:=Tryz.func185.trans (congrArg some (by kernel_rfl))
 f171:=Tryz.func130.trans (congrArg some (by kernel_rfl))
 f243:=Tryz.func150.trans (congrArg some (by kernel_rfl))
 f246:=Tryz.func171.trans (congrArg some (by kernel_rfl))
 f283:=Tryz.func178.trans (congrArg some (by kernel_rfl))
 f284:=Tryz.func179.trans (congrArg some (by kernel_rfl))
 f285:=Tryz.func180.trans (congrArg some (by kernel_rfl))
 f286:=Tryz.func181.trans (congrArg some (by kernel_rfl))
 f317:=Tryz.func184.trans (congrArg some (by kernel_rfl))
 f318:=Tryz.func186.trans (congrArg some (by kernel_rfl))
 f319:=Tryz.func187.trans (congrArg some (by kernel_rfl))
 f320:=Tryz.func188.trans (congrArg some (by kernel_rfl))
 f337:=Tryz.func189.trans (congrArg some (by kernel_rfl))
 f338:=Tryz.func190.trans (congrArg some (by kernel_rfl))
 t0:=Tryz.underlying0
 a0:=Tryz.isAgg0
 z0:=Tryz.sizeOf0
 v0:=Tryz.zeroValue0
 t2:=Tryz.underlying2
 a2:=Tryz.isAgg2
 z2:=Tryz.sizeOf2
 v2:=Tryz.zeroValue2
 t3:=Tryz.underlying3
 a3:=Tryz.isAgg3
 z3:=Tryz.sizeOf3
 v3:=Tryz.zeroValue3
 t4:=Tryz.underlying4
 a4:=Tryz.isAgg4
 z4:=Tryz.sizeOf4
 v4:=Tryz.zeroValue4
 t5:=Tryz.underlying5
 a5:=Tryz.isAgg5
 z5:=Tryz.sizeOf5
 v5:=Tryz.zeroValue5
 t9:=Tryz.underlying9
 a9:=Tryz.isAgg9
 z9:=Tryz.sizeOf9
 v9:=Tryz.zeroValue9
 t20:=Tryz.underlying20
 a20:=Tryz.isAgg20
 z20:=Tryz.sizeOf20
 v20:=Tryz.zeroValue20
 t37:=Tryz.underlying155
 a37:=Tryz.isAgg155
 z37:=Tryz.sizeOf155
 v37:=Tryz.zeroValue155
 t46:=Tryz.underlying136
 a46:=Tryz.isAgg136
 z46:=Tryz.sizeOf136
 v46:=Tryz.zeroValue136
 t51:=Tryz.underlying77
 a51:=Tryz.isAgg77
 z51:=Tryz.sizeOf77
 v51:=Tryz.zeroValue77
 t53:=Tryz.underlying135
 a53:=Tryz.isAgg135
 z53:=Tryz.sizeOf135
 v53:=Tryz.zeroValue135
 t171:=Tryz.underlying175
 a171:=Tryz.isAgg175
 z171:=Tryz.sizeOf175
 v171:=Tryz.zeroValue175
 t173:=Tryz.underlying178
 a173:=Tryz.isAgg178
 z173:=Tryz.sizeOf178
 v173:=Tryz.zeroValue178
 t212:=Tryz.underlying185
 a212:=Tryz.isAgg185
 z212:=Tryz.sizeOf185
 v212:=Tryz.zeroValue185
 t213:=Tryz.underlying186
 a213:=Tryz.isAgg186
 z213:=Tryz.sizeOf186
 t232:=Tryz.underlying189
 a232:=Tryz.isAgg189
 z232:=Tryz.sizeOf189
 v232:=Tryz.zeroValue189
 t233:=Tryz.underlying190
 a233:=Tryz.isAgg190
 z233:=Tryz.sizeOf190
 v233:=Tryz.zeroValue190
 g17:=by kernel_rfl
 g18:=by kernel_rfl
 g19:=by kernel_rfl
theorem extra:Builder.Extra Tryz.prog ren where
 sizeBuilder:=by kernel_rfl
 liesBuilder:=by kernel_rfl
 t5:=Tryz.underlying5
 a5:=Tryz.isAgg5
 z5:=Tryz.sizeOf5
 v5:=Tryz.zeroValue5
 infoByte:=by kernel_rfl
 cellsByte:=by kernel_rfl
 sizeByte:=by kernel_rfl
 neB5:=by decide
end Go.Proofs.YtboilcfohmmpbaaGreatDoor.Sym.Lay
namespace Go.Proofs.YtboilcfohmmpbaaGreatDoor.Sym
open Go Go.RowKit
set_option linter.unusedVariables false
theorem Callable.mk' {P : Program} {f : FuncId} {fn : Func} (h : P.funcs[f]? = some fn) (hb : (fn.body.isSome && !(fn.name == "runtime.NumGoroutine")) = true) : Callable P f := by
  rw [Bool.and_eq_true, Bool.not_eq_true'] at hb
  exact ⟨fn, h, hb.1, hb.2⟩
theorem Contract.ofCalls{P:Program}{f:FuncId}{args:List PV}{r:PV}(hc:Callable P f)
  (h:∀(I:Nat→Prop) (w:World) (vs:Array Value),(∀b,I b→b<w.heap.size)→args.length=vs.size →
   (∀(j:Nat) p v,args[j]? = some p→vs[j]? = some v→Rd I w p v) →
   Calls P f vs w (fun e w'=>∃v,e = .returned v∧Rd (fun b=>I b∨fresh w w' b) w' r v∧Below w.heap.size w w')):Contract P f args r:=by
 refine⟨hc,fun I w β vs hI _ hl hr=>(h I w vs hI (by simpa using hl) (fun j p v hp hv=>hr j (.pv p) v (by rw[List.getElem?_map,hp];rfl) hv)).mono ?_⟩
 rintro e w' ⟨v,he,hv,hb⟩
 refine⟨v,β,he,fun _ _ _=>rfl,Keeps.of_below ⟨hb,fun s=>by unfold Str at s;exact s.elim⟩,stoOk_nil _ _ _,?_,fun x b hx=>absurd hx dom_nil⟩
 exact Rd.mono hv (fun b hb=>hb.imp id (fun hf=>⟨Or.inl hf,(fun x hx=>absurd hx dom_nil)⟩)) (fun _ _ _=>rfl)
theorem rdv_int{I:Nat→Prop}{w:World}{k:IntKind}{n:Int}{v:Value}(h:Rd I w (.int k n) v):v = .int k n:=by cases h;rfl
theorem rdv_str{I:Nat→Prop}{w:World}{s:ByteArray}{v:Value}(h:Rd I w (.str s) v):v = .string s:=by cases h;rfl
def dig(n:Nat):ByteArray:=⟨(Lib.decDigits n).toArray⟩
theorem Itoa_small(n:Nat)(h:n<100):Contract prg 130 [vI (n:Int)] (.str (dig n)):=by
 refine Contract.ofCalls (Callable.mk' Tryz.func130 (by kernel_rfl)) (fun I w vs hI hl hr => ?_)
 obtain⟨v,rfl⟩:∃v,vs = #[v]:=by
  match vs,hl with
  |⟨[v]⟩,_=>exact⟨v,rfl⟩
 have hv:=rdv_int (hr 0 _ v rfl rfl)
 subst hv
 refine Calls.mono (Any.strconv_Itoa_small Lay.lays171 n h w) ?_
 rintro e w' ⟨he,rfl⟩
 exact⟨_,he,.str _,Below.refl _ _⟩
def joinB(l:List ByteArray)(sep:ByteArray):ByteArray:=⟨(Lib.join (l.map (·.data.toList)) sep.data.toList).toArray⟩
theorem Join(l:List ByteArray)(sep:ByteArray)(hn:l.length≤140737488355328)(hlen:(Lib.join (l.map (·.data.toList)) sep.data.toList).length≤140737488355328) :
  Contract prg 132 [lpv strCell l,.str sep] (.str (joinB l sep)):=by
 refine Contract.ofCalls (Callable.mk' Tryz.func132 (by kernel_rfl)) (fun I w vs hI hl hr => ?_)
 obtain⟨v,u,rfl⟩:∃v u,vs = #[v,u]:=by
  match vs,hl with
  |⟨[v,u]⟩,_=>exact⟨v,u,rfl⟩
 have hu:=rdv_str (hr 1 _ u rfl rfl)
 subst hu
 have hv:Rd I w (.list (l.map strCell)) v:=hr 0 _ v rfl rfl
 cases l with
 |nil =>
  have:∃a c,v = .slice a 0 c:=by
   generalize hx:(PV.list (([]:List ByteArray).map strCell))=x at hv
   cases hv with
   |nil a c=>exact⟨a,c,rfl⟩
   |list xs b o c s f hc hb hs ho h =>
    injection hx with hx
    subst hx
    exact⟨_,c,rfl⟩
   |_=>cases hx
  obtain⟨a,c,rfl⟩:=this
  refine Calls.mono (Any.strings_Join_none Lay.lays156 Lay.extra a c sep w) ?_
  rintro e w' ⟨he,rfl⟩
  exact⟨_,he,.str _,Below.refl _ _⟩
 |cons x0 r =>
  have:∃b o c,v = .slice (some ⟨b,o,none⟩) (x0::r).length c∧(x0::r).length≤c∧I b∧∀(j:Nat) x,(x0::r)[j]? = some x→w.cell? ⟨b,o+j,none⟩=some (.string x):=by
   generalize hx:(PV.list ((x0::r).map strCell))=x at hv
   cases hv with
   |list xs b o c s f hc hb hs ho h =>
    injection hx with hx
    subst hx
    have hs1:s=1:=by
     have:=hs 0 _ rfl
     simpa[strCell] using this.symm
    subst hs1
    refine⟨b,o,c,by rw[List.length_map],by simpa using hc,hb,fun j x hj => ?_⟩
    have hrow:((x0::r).map strCell)[j]? = some (strCell x):=by rw[List.getElem?_map,hj];rfl
    have h1:=(ho j 0 _ (.str x) hrow rfl).2
    have h2:=rdv_str (h j 0 _ (.str x) hrow rfl)
    rw[h2] at h1
    simpa using h1
   |_=>cases hx
  obtain⟨b,o,c,rfl,hc,hb,hcell⟩:=this
  refine Calls.mono (Any.strings_Join Lay.lays156 Lay.extra b o c (x0::r) sep w hcell (hI b hb) hn hc hlen) ?_
  rintro e w' ⟨he,hw⟩
  exact⟨_,he,.str _,hw⟩
end Go.Proofs.YtboilcfohmmpbaaGreatDoor.Sym
namespace Go.Proofs.YtboilcfohmmpbaaGreatDoor.Sym
open Go Path CInt
set_option linter.unusedVariables false
def numT(n:Int):ByteArray:=if n<0 then ByteArray.mk #[45]++dig n.natAbs else dig n.natAbs
def ratT(q:Rat):ByteArray:=if (q.den:Int)=1 then numT q.num else numT q.num++ByteArray.mk #[47]++numT (q.den:Int)
theorem dig_small{n:Nat}(h:n<10):dig n=ByteArray.mk #[UInt8.ofNat (48+n)]:=by
 unfold dig
 rw[Lib.decDigits,dif_pos h]
theorem dig_size{n:Nat}(h:n<1000000000):(dig n).size≤10:=by
 have key:∀(k n:Nat),n<10^(k+1)→(Lib.decDigits n).length≤k+1:=by
  intro k
  induction k with
  |zero =>
   intro n h
   rw[Lib.decDigits,dif_pos (by omega)]
   exact Nat.le_refl _
  |succ k ih =>
   intro n h
   by_cases h9:n<10
   ·rw[Lib.decDigits,dif_pos h9];simp
   ·rw[Lib.decDigits,dif_neg h9,List.length_append,List.length_singleton]
    have:=ih (n/10) (by rw[Nat.pow_succ] at h;omega)
    omega
 have:=key 8 n (by omega)
 show(Lib.decDigits n).toArray.size≤10
 rw[List.size_toArray]
 omega
theorem join_one(x sep:ByteArray):joinB [x] sep=x:=by
 unfold joinB
 rw[List.map_cons,List.map_nil,Lib.join_one]
theorem numT_size{n:Int}(h:n.natAbs<1000000000):(numT n).size≤11:=by
 have:=dig_size h
 unfold numT
 split
 ·rw[ByteArray.size_append]
  have e:(ByteArray.mk #[45]).size=1:=rfl
  omega
 ·omega
namespace CTx
theorem iText(n:Int)(h:n.natAbs<1000000000)(hI:n≠0→Contract prg 130 [vI (n.natAbs:Int)] (.str (dig n.natAbs))):Contract prg 94 [(whole n).pv] (.str (numT n)):=by
 have hl:(words n.natAbs).length≤1:=len_of_lt (by omega)
 have hfit:Fit (whole n).mag:=by
  show Fit (words n.natAbs)
  unfold Fit
  omega
 have hm:=CInt.mag (whole n) hfit
 have hn:=CInt.neg (whole n) hfit
 rw[whole_val] at hm hn
 by_cases h0:n=0
 ·subst h0
  have e:numT 0=ByteArray.mk #[48]:=by
   unfold numT
   rw[if_neg (by omega),show Int.natAbs 0=0 from rfl,dig_small (by omega)];rfl
  rw[e]
  exact integer_Text.e0 _ _ hm rfl
 ·have hw:(words n.natAbs).length≠0:=fun e=>h0 (by have:=words_len0.1 e;omega)
  have hs:=CInt.short (words n.natAbs) (1000000000:UInt32) (by omega) (by decide)
  rw[nat_words,show(1000000000:UInt32).toNat=1000000000 from rfl,Nat.div_eq_of_lt h,Nat.mod_eq_of_lt h,words_zero] at hs
  have hv:(UInt32.ofNat n.natAbs).toNat=n.natAbs:=by
   rw[w_ofNat]
   exact Nat.mod_eq_of_lt (by omega)
  have hi:Contract prg 130 [vI ((UInt32.ofNat n.natAbs).toNat:Int)] (.str (dig n.natAbs)):=by
   rw[hv];exact hI h0
  have hd:=dig_size h
  have hj:=Join [dig n.natAbs] (ByteArray.mk #[]) (by simp) (by
   rw[List.map_cons,List.map_nil,Lib.join_one,Array.length_toList]
   have:(dig n.natAbs).data.size=(dig n.natAbs).size:=rfl
   omega)
  rw[join_one] at hj
  have hN:integer_Text.Loop1 [] [dig n.natAbs] (whole n) (.str (numT n)):=by
   by_cases hneg:n<0
   ·have:=integer_Text.l12 [] _ _ _ _ (by simp) hj hn (decide_eq_true hneg) (by
     have e:(ByteArray.mk #[45]).size=1:=rfl
     omega)
    unfold numT
    rw[if_pos hneg]
    exact this
   ·have:=integer_Text.l13 [] _ _ _ _ (by simp) hj hn (decide_eq_false hneg)
    unfold numT
    rw[if_neg hneg]
    exact this
  exact integer_Text.e1 _ _ hm hw (integer_Text.l11 _ [] _ _ _ _ (by omega) hs hi (by simp) (by simp) hN)
theorem iText_small(n:Int)(h:n.natAbs<100):Contract prg 94 [(whole n).pv] (.str (numT n)):=iText n (by omega) (fun _=>Itoa_small _ h)
theorem fText(q:Rat)(h1:q.num.natAbs<1000000000)(h2:q.den<1000000000)(hN:Contract prg 94 [(whole q.num).pv] (.str (numT q.num)))(hD:Contract prg 94 [(whole (q.den:Int)).pv] (.str (numT (q.den:Int)))):Contract prg 42 [(mkR q).pv] (.str (ratT q)):=by
 have l1:wl q.num≤1:=len_of_lt (by omega)
 have l2:wl (q.den:Int)≤1:=len_of_lt (by rw[Int.natAbs_natCast];omega)
 have hh:ht q≤1:=Nat.max_le.2 ⟨l1,l2⟩
 have hp:=CFr.Parts (mkR q) (fit_mkR (by omega))
 rw[mkR_val] at hp
 have hc:=CInt.Cmp (whole (q.den:Int)) (whole 1) (show Fit (whole (q.den:Int)).mag from Nat.le_trans l2 (by omega)) (by decide)
 rw[whole_val,whole_val] at hc
 have s1:=numT_size h1
 have s2:=numT_size (n:=(q.den:Int)) (by rw[Int.natAbs_natCast];exact h2)
 by_cases hd:(q.den:Int)=1
 ·have:=fraction_Text.e0 _ _ _ _ _ _ hp CFr.one hc (by rw[hd];rfl) hN
  unfold ratT
  rw[if_pos hd]
  exact this
 ·have e:(ByteArray.mk #[47]).size=1:=rfl
  have hc0:cmpI (q.den:Int) 1≠0:=by
   unfold cmpI
   intro hx
   split at hx
   ·cases hx
   ·omega
  have:=fraction_Text.e1 _ _ _ _ _ _ _ hp CFr.one hc hc0 hN (by omega) hD (by rw[ByteArray.size_append];omega)
  unfold ratT
  rw[if_neg hd]
  exact this
theorem fText_small(q:Rat)(h1:q.num.natAbs<100)(h2:q.den<100):Contract prg 42 [(mkR q).pv] (.str (ratT q)) :=
 fText q (by omega) (by omega) (iText_small _ h1) (iText_small _ (by rw[Int.natAbs_natCast];exact h2))
end CTx
end Go.Proofs.YtboilcfohmmpbaaGreatDoor.Sym
namespace Go.Proofs.YtboilcfohmmpbaaGreatDoor.Sym.Path
open Go
set_option maxRecDepth 20000
set_option linter.unusedVariables false
namespace linkworklaw08_of
@[reducible] noncomputable def fn:Func:=Tryz.f26
noncomputable def atK1:List Itm:=focus [0,2,0,2,0,0,2,0,0] [.code (bodyOf fn)]
def inv1(site_16:List ARat)(l:List Int)(t_8:Nat):St:=⟨[(3,(.row 16 0 site_16.length 3)),(6,(.pv (lpv intCell l))),(7,(eI (l.length:Int))),(8,(eI (t_8:Int)))],[(16,(.pure ((site_16:List ARat).map ARat.cells).flatten))]⟩
@[reducible] noncomputable def Loop1(site_16:List ARat)(l:List Int)(t_8:Nat)(r:PV):Prop:=L prg fn atK1 (inv1 site_16 l t_8) r
theorem e0 (l : List Int) {r : PV}  (hL : Loop1 [] l 0 r) : Contract prg 26 [(lpv intCell l)] r :=
 Contract.ofL Tryz.func26 (by kernel_rfl) (L.go mixed tabOk (n:=87) (ns:=[1]) (tr:=[.reg [],.reg [.nil],.adopt 3 16 3,.reg [.none,(iI (l.length:Int))],.keep [3,6,7,8]]) (cj (o_len intCell l) True.intro) (by kernel_rfl) hL)
theorem l10(site_16:List ARat)(l:List Int)(t_8:Nat)(v:Int)(of:ARat){r:PV}(h1:t_8<l.length)(h2:l[t_8]? = some v)(h3:Contract prg 27 [(vI v)] of.pv)(h4:((site_16++[of]):List ARat).length*56≤140737488355328)(h5:(t_8+1)<9223372036854775808)(hL:Loop1 (site_16++[of]) l (t_8+1) r):Loop1 site_16 l t_8 r :=
 L.go mixed tabOk (n:=126) (ns:=[1,3,1,6,1]) (tr:=[.auto,.reg [],.dec true,.reg [(.row t_8 (intCell v))],.reg [.none,.none,(.pv of.pv),.none,(.app ((site_16++[of]):List ARat).length (((site_16++[of]):List ARat).map ARat.cells).flatten)],.reg [(iI (((t_8+1):Nat):Int))],.keep [3,6,7,8],.drop [15]]) (cj (dltN_t h1) (cj (o_at intCell (Eq.refl (((t_8:Nat):Int):Int)) h2) (cj h3 (cj (o_appR sz_ARat (site_16:List ARat) ([of]:List ARat) 56 (Eq.refl (site_16:List ARat).length) (Eq.refl ([of]:List ARat).length) h4 rfl) (cj (bs_addN h5) True.intro))))) (by kernel_rfl) hL
theorem l11(site_16:List ARat)(l:List Int)(t_8:Nat)(h1:l.length≤t_8):Loop1 site_16 l t_8 (polyPV site_16) :=
 L.done mixed tabOk (n:=120) (ns:=[1,3]) (tr:=[.auto,.reg [],.dec false,.reg [],.frzT 2 ((site_16:List ARat).map ARat.cells)]) (cj (dltN_f h1) (cj (o_frz sz_ARat (site_16:List ARat) (Eq.refl (site_16:List ARat).length)) True.intro)) (by kernel_rfl)
end linkworklaw08_of
namespace linkworklaw08_awake
theorem e0(of of1:List ARat)(res:ARat)(of2:List ARat)(dis:ARat)(of3:List ARat)(dis2:ARat)(of4 of5 bez bez1 bez2:List ARat)(tex tex1:ByteArray)(sig:Int)(of6:List ARat)(sam:Bool)(of7:List ARat)(sam1:Bool)(of8:List ARat)(sam2:Bool)(h1:Contract prg 26 [(lpv intCell [(-2),0,1])] (polyPV of))(h2:Contract prg 26 [(lpv intCell [(-3),1])] (polyPV of1))(h3:Contract prg 13 [(polyPV of),(polyPV of1)] (.tup [res.pv,.nilI]))(h4:Contract prg 26 [(lpv intCell [0,(-1),0,1])] (polyPV of2))(h5:Contract prg 14 [(polyPV of2)] (.tup [dis.pv,.nilI]))(h6:Contract prg 26 [(lpv intCell [2,(-3),0,1])] (polyPV of3))(h7:Contract prg 14 [(polyPV of3)] (.tup [dis2.pv,.nilI]))(h8:Contract prg 26 [(lpv intCell [0,1])] (polyPV of4))(h9:Contract prg 26 [(lpv intCell [(-1),1])] (polyPV of5))(h10:Contract prg 35 [(polyPV of4),(polyPV of5)] (.tup [(polyPV bez),(polyPV bez1),(polyPV bez2),.nilI]))(h11:Contract prg 42 [res.pv] (.str tex))(h12:tex=(ByteArray.mk #[55]))(h13:Contract prg 42 [dis.pv] (.str tex1))(h14:tex1=(ByteArray.mk #[52]))(h15:Contract prg 31 [dis2.pv] (vI sig))(h16:sig=0)(h17:Contract prg 26 [(lpv intCell [1])] (polyPV of6))(h18:Contract prg 39 [(polyPV bez),(polyPV of6)] (vB sam))(h19:sam=true)(h20:Contract prg 26 [(lpv intCell [(-1)])] (polyPV of7))(h21:Contract prg 39 [(polyPV bez1),(polyPV of7)] (vB sam1))(h22:sam1=true)(h23:Contract prg 26 [(lpv intCell [1])] (polyPV of8))(h24:Contract prg 39 [(polyPV bez2),(polyPV of8)] (vB sam2)):Contract prg 11 [] (vB sam2) :=
 Contract.ofL Tryz.func11 (by kernel_rfl) (L.done mixed tabOk (n:=96) (ns:=[3,1,3,1,1,3,1,1,3,1,1,3,1,3,1,1,1,1,1,1,1,1,1,1,1,1,1,1,1,1,1,1,1,1,1,1,1,1,3,1,1,1,1,1,1,1,3,1,1,1,1,1,1,1,3,1,1,1,1,1]) (tr:=[.reg [],.reg [(.slc 0 0 (([(-2),0,1]:List Int).map intCell)),(.pv (polyPV of)),(.slc 0 0 (([(-3),1]:List Int).map intCell)),(.pv (polyPV of1)),(.pv (.tup [res.pv,.nilI]))],.reg [(.slc 0 0 (([0,(-1),0,1]:List Int).map intCell)),(.pv (polyPV of2)),(.pv (.tup [dis.pv,.nilI]))],.reg [(.slc 0 0 (([2,(-3),0,1]:List Int).map intCell)),(.pv (polyPV of3)),(.pv (.tup [dis2.pv,.nilI]))],.reg [(.slc 0 0 (([0,1]:List Int).map intCell)),(.pv (polyPV of4)),(.slc 0 0 (([(-1),1]:List Int).map intCell)),(.pv (polyPV of5)),(.pv (.tup [(polyPV bez),(polyPV bez1),(polyPV bez2),.nilI]))],.reg [.none,.none,.none,.none,.none,.none,.none,.none,.none,.none,.none,.none,.none,.none,.none,.none,(.pv (.str tex)),.none,.none,.none,.none,(.pv (.str tex1)),.none,(.dec true),.none,.none,(.pv (vI sig)),.none,(.dec true),.none,.none,(.slc 0 0 (([1]:List Int).map intCell)),(.pv (polyPV of6)),(.pv (vB sam)),(.dec true),.none,.none,(.slc 0 0 (([(-1)]:List Int).map intCell)),(.pv (polyPV of7)),(.pv (vB sam1)),(.dec true),.none,.none,(.slc 0 0 (([1]:List Int).map intCell)),(.pv (polyPV of8)),(.pv (vB sam2)),(.dec true)]]) (cj (o_bs sz_int ([(-2),0,1]:List Int)) (cj h1 (cj (o_bs sz_int ([(-3),1]:List Int)) (cj h2 (cj h3 (cj (o_bs sz_int ([0,(-1),0,1]:List Int)) (cj h4 (cj h5 (cj (o_bs sz_int ([2,(-3),0,1]:List Int)) (cj h6 (cj h7 (cj (o_bs sz_int ([0,1]:List Int)) (cj h8 (cj (o_bs sz_int ([(-1),1]:List Int)) (cj h9 (cj h10 (cj (Eq.refl true) (cj (Eq.refl true) (cj (Eq.refl true) (cj (Eq.refl true) (cj (Eq.refl true) (cj (Eq.refl true) (cj (Eq.refl true) (cj (Eq.refl true) (cj h11 (cj (Eq.refl true) (cj (dseq_t h12) (cj (dseq_t h12) (cj h13 (cj (dseq_t h12) (cj (dseq_t h12) (cj (dseq_t h14) (cj (dseq_t h14) (cj h15 (cj (dseq_t h14) (cj (dseq_t h14) (cj (deq_t h16) (cj (deq_t h16) (cj (o_bs sz_int ([1]:List Int)) (cj (deq_t h16) (cj h17 (cj (deq_t h16) (cj h18 (cj (deq_t h16) (cj h19 (cj h19 (cj (o_bs sz_int ([(-1)]:List Int)) (cj h19 (cj h20 (cj h19 (cj h21 (cj h19 (cj h22 (cj h22 (cj (o_bs sz_int ([1]:List Int)) (cj h22 (cj h23 (cj h22 (cj h24 (cj h22 True.intro)))))))))))))))))))))))))))))))))))))))))))))))))))))))))))) (by kernel_rfl))
end linkworklaw08_awake
namespace linkworklaw08_short
@[reducible] noncomputable def fn:Func:=Tryz.f10
noncomputable def atK1:List Itm:=focus [0,2,0,0,2,0,0] [.code (bodyOf fn)]
def inv1(l:List (List ARat))(t_9:Nat):St:=⟨[(7,(.pv (lpv (lcell ARat.cells) l))),(8,(eI (l.length:Int))),(9,(eI (t_9:Int)))],[]⟩
@[reducible] noncomputable def Loop1(l:List (List ARat))(t_9:Nat)(r:PV):Prop:=L prg fn atK1 (inv1 l t_9) r
noncomputable def atK2:List Itm:=focus [0,2,0,0,2,0,0,0,0,2,0,0,2,0,0,0,2,0,0,2,1,2,0,2,0,0] [.code (bodyOf fn)]
def inv2(l:List (List ARat))(t_9:Nat)(v:List ARat)(t_28:Nat):St:=⟨[(7,(.pv (lpv (lcell ARat.cells) l))),(8,(eI (l.length:Int))),(9,(eI (t_9:Int))),(26,(.pv (polyPV v))),(27,(eI (v.length:Int))),(28,(eI (t_28:Int)))],[]⟩
@[reducible] noncomputable def Loop2(l:List (List ARat))(t_9:Nat)(v:List ARat)(t_28:Nat)(r:PV):Prop:=L prg fn atK2 (inv2 l t_9 v t_28) r
theorem e0 (l : List (List ARat)) {r : PV}  (hL : Loop1 l 0 r) : Contract prg 10 [(lpv (lcell ARat.cells) l)] r :=
 Contract.ofL Tryz.func10 (by kernel_rfl) (L.go mixed tabOk (n:=81) (ns:=[1]) (tr:=[.reg [],.reg [.none,(iI (l.length:Int))],.keep [7,8,9]]) (cj (o_len (lcell ARat.cells) l) True.intro) (by kernel_rfl) hL)
theorem l10(l:List (List ARat))(t_9:Nat)(v:List ARat)(h1:t_9<l.length)(h2:l[t_9]? = some v)(h3:6<v.length)(h4:v.length≤65):Loop1 l t_9 (vB false) :=
 L.done mixed tabOk (n:=129) (ns:=[1,3,1,1,1,1,1,1,1,1,1,1]) (tr:=[.auto,.reg [],.dec true,.reg [(.row t_9 ((lcell ARat.cells) v))],.reg [.none,(iI (v.length:Int)),.none,.none,.none,(iI (v.length:Int)),.none,(.dec true),.none,.skip,.skip,.skip,(.dec true)],.auto,.reg []]) (cj (dltN_t h1) (cj (o_at (lcell ARat.cells) (Eq.refl (((t_9:Nat):Int):Int)) h2) (cj (o_len ARat.cells v) (cj (dltN_t h3) (cj (dltN_t h3) (cj (o_len ARat.cells v) (cj (dltN_t h3) (cj (dltN_t h3) (cj (dleN_t h4) (cj (dleN_t h4) (cj (dleN_t h4) (cj (dleN_t h4) True.intro)))))))))))) (by kernel_rfl)
theorem l11(l:List (List ARat))(t_9:Nat)(v:List ARat)(h1:t_9<l.length)(h2:l[t_9]? = some v)(h3:6<v.length)(h4:65<v.length)(h5:100<v.length):Loop1 l t_9 (vB false) :=
 L.done mixed tabOk (n:=129) (ns:=[1,3,1,1,1,1,1,1,1,1,1,1,1,1]) (tr:=[.auto,.reg [],.dec true,.reg [(.row t_9 ((lcell ARat.cells) v))],.reg [.none,(iI (v.length:Int)),.none,.none,.none,(iI (v.length:Int)),.none,(.dec true),.none,.none,(iI (v.length:Int)),.none,(.dec false)],.dec true,.reg []]) (cj (dltN_t h1) (cj (o_at (lcell ARat.cells) (Eq.refl (((t_9:Nat):Int):Int)) h2) (cj (o_len ARat.cells v) (cj (dltN_t h3) (cj (dltN_t h3) (cj (o_len ARat.cells v) (cj (dltN_t h3) (cj (dltN_t h3) (cj (dleN_f h4) (cj (dleN_f h4) (cj (o_len ARat.cells v) (cj (dleN_f h4) (cj (dleN_f h4) (cj (dltN_t h5) True.intro)))))))))))))) (by kernel_rfl)
theorem l12(l:List (List ARat))(t_9:Nat)(v:List ARat){r:PV}(h1:t_9<l.length)(h2:l[t_9]? = some v)(h3:6<v.length)(h4:65<v.length)(h5:v.length≤100)(hL:Loop2 l t_9 v 0 r):Loop1 l t_9 r :=
 L.go mixed tabOk (n:=138) (ns:=[1,3,1,1,1,1,1,1,1,1,1,1,1,1,1]) (tr:=[.auto,.reg [],.dec true,.reg [(.row t_9 ((lcell ARat.cells) v))],.reg [.none,(iI (v.length:Int)),.none,.none,.none,(iI (v.length:Int)),.none,(.dec true),.none,.none,(iI (v.length:Int)),.none,(.dec false)],.dec false,.reg [.none,(iI (v.length:Int))],.keep [7,8,9,26,27,28]]) (cj (dltN_t h1) (cj (o_at (lcell ARat.cells) (Eq.refl (((t_9:Nat):Int):Int)) h2) (cj (o_len ARat.cells v) (cj (dltN_t h3) (cj (dltN_t h3) (cj (o_len ARat.cells v) (cj (dltN_t h3) (cj (dltN_t h3) (cj (dleN_f h4) (cj (dleN_f h4) (cj (o_len ARat.cells v) (cj (dleN_f h4) (cj (dleN_f h4) (cj (dltN_f h5) (cj (o_len ARat.cells v) True.intro))))))))))))))) (by kernel_rfl) hL
theorem l14(l:List (List ARat))(t_9:Nat)(v:List ARat){r:PV}(h1:t_9<l.length)(h2:l[t_9]? = some v)(h3:v.length≤6)(h4:v.length≤100)(hL:Loop2 l t_9 v 0 r):Loop1 l t_9 r :=
 L.go mixed tabOk (n:=138) (ns:=[1,3,1,1,1,1,1,1,1,1,1,1,1]) (tr:=[.auto,.reg [],.dec true,.reg [(.row t_9 ((lcell ARat.cells) v))],.reg [.none,(iI (v.length:Int)),.none,.none,.skip,.skip,.skip,(.dec false),.none,.none,(iI (v.length:Int))],.dec false,.reg [.none,(iI (v.length:Int))],.keep [7,8,9,26,27,28]]) (cj (dltN_t h1) (cj (o_at (lcell ARat.cells) (Eq.refl (((t_9:Nat):Int):Int)) h2) (cj (o_len ARat.cells v) (cj (dltN_f h3) (cj (dltN_f h3) (cj (dltN_f h3) (cj (dltN_f h3) (cj (Eq.refl false) (cj (Eq.refl false) (cj (o_len ARat.cells v) (cj (Eq.refl false) (cj (dltN_f h4) (cj (o_len ARat.cells v) True.intro))))))))))))) (by kernel_rfl) hL
theorem l15(l:List (List ARat))(t_9:Nat)(h1:l.length≤t_9):Loop1 l t_9 (vB true) :=
 L.done mixed tabOk (n:=114) (ns:=[1]) (tr:=[.auto,.reg [],.dec false,.reg []]) (cj (dltN_f h1) True.intro) (by kernel_rfl)
theorem l20(l:List (List ARat))(t_9:Nat)(v:List ARat)(t_28:Nat)(v1:ARat)(low:Bool)(h1:t_28<v.length)(h2:v[t_28]? = some v1)(h3:Contract prg 41 [v1.pv,(vW (1000:UInt32)),(vW (1000:UInt32))] (vB low))(h4:low=false):Loop2 l t_9 v t_28 (vB false) :=
 L.done mixed tabOk (n:=183) (ns:=[1,3,1,1]) (tr:=[.auto,.reg [],.dec true,.reg [(.row t_28 (ARat.cells v1))],.reg [.none,(.pv (vB low))],.dec true,.reg []]) (cj (dltN_t h1) (cj (o_at ARat.cells (Eq.refl (((t_28:Nat):Int):Int)) h2) (cj h3 (cj (bnot_t h4) True.intro)))) (by kernel_rfl)
theorem l21(l:List (List ARat))(t_9:Nat)(v:List ARat)(t_28:Nat)(v1:ARat)(low:Bool){r:PV}(h1:t_28<v.length)(h2:v[t_28]? = some v1)(h3:Contract prg 41 [v1.pv,(vW (1000:UInt32)),(vW (1000:UInt32))] (vB low))(h4:low=true)(h5:(t_28+1)<9223372036854775808)(hL:Loop2 l t_9 v (t_28+1) r):Loop2 l t_9 v t_28 r :=
 L.go mixed tabOk (n:=186) (ns:=[1,3,1,1,1]) (tr:=[.auto,.reg [],.dec true,.reg [(.row t_28 (ARat.cells v1))],.reg [.none,(.pv (vB low))],.dec false,.reg [(iI (((t_28+1):Nat):Int))],.keep [7,8,9,26,27,28],.drop [6]]) (cj (dltN_t h1) (cj (o_at ARat.cells (Eq.refl (((t_28:Nat):Int):Int)) h2) (cj h3 (cj (bnot_f h4) (cj (bs_addN h5) True.intro))))) (by kernel_rfl) hL
theorem l22(l:List (List ARat))(t_9:Nat)(v:List ARat)(t_28:Nat){r:PV}(h1:v.length≤t_28)(h2:(t_9+1)<9223372036854775808)(hL:Loop1 l (t_9+1) r):Loop2 l t_9 v t_28 r :=
 L.go mixed tabOk (n:=171) (ns:=[1,1]) (tr:=[.auto,.reg [],.dec false,.reg [(iI (((t_9+1):Nat):Int))],.keep [7,8,9]]) (cj (dltN_f h1) (cj (bs_addN h2) True.intro)) (by kernel_rfl) hL
end linkworklaw08_short
namespace linkworklaw08_low
theorem e0(x:ARat)(num den:UInt32)(h1:x.num.length<2)(h2:x.den.length<2)(h3:x.num.length=0)(h4:x.den.length=0):Contract prg 41 [x.pv,(vW num),(vW den)] (vB true) :=
 Contract.ofL Tryz.func41 (by kernel_rfl) (L.done mixed tabOk (n:=72) (ns:=[1,1,1,1,1,1,1,1,1,1,1,1,1,1,1,1,1,1,1,1,1,1,1,1,1,1,1,1,1,1,1,1,1,1,1,1]) (tr:=[.reg [],.reg [.none,.none,(iI (x.num.length:Int)),.none,.none,.none,.none,(iI (x.den.length:Int)),.none,(.dec true),.none,.none,.none,(iI (x.num.length:Int)),.none,.none,.skip,.skip,.skip,.skip,.skip,.skip,(.dec true),(.dec true),.none,.none,.none,(iI (x.den.length:Int)),.none,.none,.skip,.skip,.skip,.skip,.skip,.skip,(.dec true)]]) (cj (o_len wordPV x.num) (cj (dltN_t h1) (cj (dltN_t h1) (cj (dltN_t h1) (cj (o_len wordPV x.den) (cj (dltN_t h1) (cj (dltN_t h1) (cj (dltN_t h2) (cj (dltN_t h2) (cj (dltN_t h2) (cj (o_len wordPV x.num) (cj (dltN_t h2) (cj (dltN_t h2) (cj (deqN_t h3) (cj (deqN_t h3) (cj (deqN_t h3) (cj (deqN_t h3) (cj (deqN_t h3) (cj (deqN_t h3) (cj (dltN_t h2) (cj (deqN_t h3) (cj (dltN_t h2) (cj (Eq.refl true) (cj (Eq.refl true) (cj (Eq.refl true) (cj (o_len wordPV x.den) (cj (Eq.refl true) (cj (Eq.refl true) (cj (deqN_t h4) (cj (deqN_t h4) (cj (deqN_t h4) (cj (deqN_t h4) (cj (deqN_t h4) (cj (deqN_t h4) (cj (Eq.refl true) (cj (deqN_t h4) True.intro)))))))))))))))))))))))))))))))))))) (by kernel_rfl))
theorem e1(x:ARat)(num den v:UInt32)(h1:x.num.length<2)(h2:x.den.length<2)(h3:x.num.length=0)(h4:x.den.length≠0)(h5:x.den[0]? = some v):Contract prg 41 [x.pv,(vW num),(vW den)] (vB (decide ((v.toNat:Int)≤(den.toNat:Int)))) :=
 Contract.ofL Tryz.func41 (by kernel_rfl) (L.done mixed tabOk (n:=72) (ns:=[1,1,1,1,1,1,1,1,1,1,1,1,1,1,1,1,1,1,1,1,1,1,1,1,1,1,1,1,1,1,1,3,1,1,1,1,1]) (tr:=[.reg [],.reg [.none,.none,(iI (x.num.length:Int)),.none,.none,.none,.none,(iI (x.den.length:Int)),.none,(.dec true),.none,.none,.none,(iI (x.num.length:Int)),.none,.none,.skip,.skip,.skip,.skip,.skip,.skip,(.dec true),(.dec true),.none,.none,.none,(iI (x.den.length:Int)),.none,.none,.none,.none,(.row 0 (wordPV v)),.none,.none,.none,(.dec false)]]) (cj (o_len wordPV x.num) (cj (dltN_t h1) (cj (dltN_t h1) (cj (dltN_t h1) (cj (o_len wordPV x.den) (cj (dltN_t h1) (cj (dltN_t h1) (cj (dltN_t h2) (cj (dltN_t h2) (cj (dltN_t h2) (cj (o_len wordPV x.num) (cj (dltN_t h2) (cj (dltN_t h2) (cj (deqN_t h3) (cj (deqN_t h3) (cj (deqN_t h3) (cj (deqN_t h3) (cj (deqN_t h3) (cj (deqN_t h3) (cj (dltN_t h2) (cj (deqN_t h3) (cj (dltN_t h2) (cj (Eq.refl true) (cj (Eq.refl true) (cj (Eq.refl true) (cj (o_len wordPV x.den) (cj (Eq.refl true) (cj (Eq.refl true) (cj (deqN_f h4) (cj (deqN_f h4) (cj (deqN_f h4) (cj (o_at wordPV (Eq.refl (0:Int)) h5) (cj (deqN_f h4) (cj (deqN_f h4) (cj (deqN_f h4) (cj (Eq.refl true) (cj (deqN_f h4) True.intro))))))))))))))))))))))))))))))))))))) (by kernel_rfl))
theorem e2(x:ARat)(num den v:UInt32)(h1:x.num.length<2)(h2:x.den.length<2)(h3:x.num.length≠0)(h4:x.num[0]? = some v)(h5:v.toNat≤num.toNat)(h6:x.den.length=0):Contract prg 41 [x.pv,(vW num),(vW den)] (vB true) :=
 Contract.ofL Tryz.func41 (by kernel_rfl) (L.done mixed tabOk (n:=72) (ns:=[1,1,1,1,1,1,1,1,1,1,1,1,1,1,1,1,3,1,1,1,1,1,1,1,1,1,1,1,1,1,1,1,1,1,1,1,1,1]) (tr:=[.reg [],.reg [.none,.none,(iI (x.num.length:Int)),.none,.none,.none,.none,(iI (x.den.length:Int)),.none,(.dec true),.none,.none,.none,(iI (x.num.length:Int)),.none,.none,.none,.none,(.row 0 (wordPV v)),.none,.none,.none,(.dec false),(.dec true),.none,.none,.none,(iI (x.den.length:Int)),.none,.none,.skip,.skip,.skip,.skip,.skip,.skip,(.dec true),(.dec true)]]) (cj (o_len wordPV x.num) (cj (dltN_t h1) (cj (dltN_t h1) (cj (dltN_t h1) (cj (o_len wordPV x.den) (cj (dltN_t h1) (cj (dltN_t h1) (cj (dltN_t h2) (cj (dltN_t h2) (cj (dltN_t h2) (cj (o_len wordPV x.num) (cj (dltN_t h2) (cj (dltN_t h2) (cj (deqN_f h3) (cj (deqN_f h3) (cj (deqN_f h3) (cj (o_at wordPV (Eq.refl (0:Int)) h4) (cj (deqN_f h3) (cj (deqN_f h3) (cj (deqN_f h3) (cj (dltN_t h2) (cj (deqN_f h3) (cj (dltN_t h2) (cj (dleN_t h5) (cj (dleN_t h5) (cj (dleN_t h5) (cj (o_len wordPV x.den) (cj (dleN_t h5) (cj (dleN_t h5) (cj (deqN_t h6) (cj (deqN_t h6) (cj (deqN_t h6) (cj (deqN_t h6) (cj (deqN_t h6) (cj (deqN_t h6) (cj (dleN_t h5) (cj (deqN_t h6) (cj (dleN_t h5) True.intro)))))))))))))))))))))))))))))))))))))) (by kernel_rfl))
theorem e3(x:ARat)(num den v v1:UInt32)(h1:x.num.length<2)(h2:x.den.length<2)(h3:x.num.length≠0)(h4:x.num[0]? = some v)(h5:v.toNat≤num.toNat)(h6:x.den.length≠0)(h7:x.den[0]? = some v1):Contract prg 41 [x.pv,(vW num),(vW den)] (vB (decide ((v1.toNat:Int)≤(den.toNat:Int)))) :=
 Contract.ofL Tryz.func41 (by kernel_rfl) (L.done mixed tabOk (n:=72) (ns:=[1,1,1,1,1,1,1,1,1,1,1,1,1,1,1,1,3,1,1,1,1,1,1,1,1,1,1,1,1,1,1,1,3,1,1,1,1,1,1]) (tr:=[.reg [],.reg [.none,.none,(iI (x.num.length:Int)),.none,.none,.none,.none,(iI (x.den.length:Int)),.none,(.dec true),.none,.none,.none,(iI (x.num.length:Int)),.none,.none,.none,.none,(.row 0 (wordPV v)),.none,.none,.none,(.dec false),(.dec true),.none,.none,.none,(iI (x.den.length:Int)),.none,.none,.none,.none,(.row 0 (wordPV v1)),.none,.none,.none,(.dec false),(.dec true)]]) (cj (o_len wordPV x.num) (cj (dltN_t h1) (cj (dltN_t h1) (cj (dltN_t h1) (cj (o_len wordPV x.den) (cj (dltN_t h1) (cj (dltN_t h1) (cj (dltN_t h2) (cj (dltN_t h2) (cj (dltN_t h2) (cj (o_len wordPV x.num) (cj (dltN_t h2) (cj (dltN_t h2) (cj (deqN_f h3) (cj (deqN_f h3) (cj (deqN_f h3) (cj (o_at wordPV (Eq.refl (0:Int)) h4) (cj (deqN_f h3) (cj (deqN_f h3) (cj (deqN_f h3) (cj (dltN_t h2) (cj (deqN_f h3) (cj (dltN_t h2) (cj (dleN_t h5) (cj (dleN_t h5) (cj (dleN_t h5) (cj (o_len wordPV x.den) (cj (dleN_t h5) (cj (dleN_t h5) (cj (deqN_f h6) (cj (deqN_f h6) (cj (deqN_f h6) (cj (o_at wordPV (Eq.refl (0:Int)) h7) (cj (deqN_f h6) (cj (deqN_f h6) (cj (deqN_f h6) (cj (dleN_t h5) (cj (deqN_f h6) (cj (dleN_t h5) True.intro))))))))))))))))))))))))))))))))))))))) (by kernel_rfl))
theorem e4(x:ARat)(num den v:UInt32)(h1:x.num.length<2)(h2:x.den.length<2)(h3:x.num.length≠0)(h4:x.num[0]? = some v)(h5:num.toNat<v.toNat):Contract prg 41 [x.pv,(vW num),(vW den)] (vB false) :=
 Contract.ofL Tryz.func41 (by kernel_rfl) (L.done mixed tabOk (n:=72) (ns:=[1,1,1,1,1,1,1,1,1,1,1,1,1,1,1,1,3,1,1,1,1,1,1,1,1,1,1,1,1,1]) (tr:=[.reg [],.reg [.none,.none,(iI (x.num.length:Int)),.none,.none,.none,.none,(iI (x.den.length:Int)),.none,(.dec true),.none,.none,.none,(iI (x.num.length:Int)),.none,.none,.none,.none,(.row 0 (wordPV v)),.none,.none,.none,(.dec false),(.dec true),.none,.skip,.skip,.skip,.skip,.skip,.skip,.skip,.skip,.skip,.skip,.skip,.skip,(.dec false)]]) (cj (o_len wordPV x.num) (cj (dltN_t h1) (cj (dltN_t h1) (cj (dltN_t h1) (cj (o_len wordPV x.den) (cj (dltN_t h1) (cj (dltN_t h1) (cj (dltN_t h2) (cj (dltN_t h2) (cj (dltN_t h2) (cj (o_len wordPV x.num) (cj (dltN_t h2) (cj (dltN_t h2) (cj (deqN_f h3) (cj (deqN_f h3) (cj (deqN_f h3) (cj (o_at wordPV (Eq.refl (0:Int)) h4) (cj (deqN_f h3) (cj (deqN_f h3) (cj (deqN_f h3) (cj (dltN_t h2) (cj (deqN_f h3) (cj (dltN_t h2) (cj (dleN_f h5) (cj (dleN_f h5) (cj (dleN_f h5) (cj (dleN_f h5) (cj (dleN_f h5) (cj (dleN_f h5) (cj (dleN_f h5) True.intro)))))))))))))))))))))))))))))) (by kernel_rfl))
theorem e5(x:ARat)(num den:UInt32)(h1:x.num.length<2)(h2:2≤x.den.length):Contract prg 41 [x.pv,(vW num),(vW den)] (vB false) :=
 Contract.ofL Tryz.func41 (by kernel_rfl) (L.done mixed tabOk (n:=72) (ns:=[1,1,1,1,1,1,1,1,1,1,1,1,1,1,1,1,1,1,1,1]) (tr:=[.reg [],.reg [.none,.none,(iI (x.num.length:Int)),.none,.none,.none,.none,(iI (x.den.length:Int)),.none,(.dec true),.none,.skip,.skip,.skip,.skip,.skip,.skip,.skip,.skip,.skip,.skip,.skip,.skip,(.dec false),.none,.skip,.skip,.skip,.skip,.skip,.skip,.skip,.skip,.skip,.skip,.skip,.skip]]) (cj (o_len wordPV x.num) (cj (dltN_t h1) (cj (dltN_t h1) (cj (dltN_t h1) (cj (o_len wordPV x.den) (cj (dltN_t h1) (cj (dltN_t h1) (cj (dltN_f h2) (cj (dltN_f h2) (cj (dltN_f h2) (cj (dltN_f h2) (cj (dltN_f h2) (cj (dltN_f h2) (cj (dltN_f h2) (cj (Eq.refl false) (cj (Eq.refl false) (cj (Eq.refl false) (cj (Eq.refl false) (cj (Eq.refl false) (cj (Eq.refl false) True.intro)))))))))))))))))))) (by kernel_rfl))
theorem e6(x:ARat)(num den:UInt32)(h1:2≤x.num.length):Contract prg 41 [x.pv,(vW num),(vW den)] (vB false) :=
 Contract.ofL Tryz.func41 (by kernel_rfl) (L.done mixed tabOk (n:=72) (ns:=[1,1,1,1,1,1,1,1,1,1,1,1,1,1,1,1,1,1]) (tr:=[.reg [],.reg [.none,.none,(iI (x.num.length:Int)),.none,.none,.skip,.skip,.skip,.skip,(.dec false),.none,.skip,.skip,.skip,.skip,.skip,.skip,.skip,.skip,.skip,.skip,.skip,.skip,.none,.none,.skip,.skip,.skip,.skip,.skip,.skip,.skip,.skip,.skip,.skip,.skip,.skip]]) (cj (o_len wordPV x.num) (cj (dltN_f h1) (cj (dltN_f h1) (cj (dltN_f h1) (cj (dltN_f h1) (cj (dltN_f h1) (cj (Eq.refl false) (cj (Eq.refl false) (cj (Eq.refl false) (cj (Eq.refl false) (cj (Eq.refl false) (cj (Eq.refl false) (cj (Eq.refl false) (cj (Eq.refl false) (cj (Eq.refl false) (cj (Eq.refl false) (cj (Eq.refl false) (cj (Eq.refl false) True.intro)))))))))))))))))) (by kernel_rfl))
end linkworklaw08_low
namespace linkworklaw08_ResultantBezout
theorem e0(p q:List ARat)(c:ACofactors)(sho awa:Bool)(h1:Contract prg 10 [(lpv (lcell ARat.cells) [p,q,c.u,c.v,c.g])] (vB sho))(h2:sho=false)(h3:Contract prg 11 [] (vB awa)):Contract prg 8 [(polyPV p),(polyPV q),c.pv] (vB awa) :=
 Contract.ofL Tryz.func8 (by kernel_rfl) (L.done mixed tabOk (n:=84) (ns:=[3,1,1,1,1,1]) (tr:=[.reg [],.reg [.none,.none,.none,.none,.none,.none,.none,.none,(.slc 0 0 (([p,q,c.u,c.v,c.g]:List (List ARat)).map (lcell ARat.cells))),(.pv (vB sho)),.none,.none,.skip,.skip,(.dec true)],.auto,.reg [(.pv (vB awa))]]) (cj (o_bs (sz_l ARat.cells) ([p,q,c.u,c.v,c.g]:List (List ARat))) (cj h1 (cj (bnot_t h2) (cj (bnot_t h2) (cj (bnot_t h2) (cj h3 True.intro)))))) (by kernel_rfl))
theorem e2(p q:List ARat)(c:ACofactors)(sho awa:Bool)(bez bez1 bez2:List ARat)(bez3:Option Int)(acc:Bool)(acc1:Option Int)(bez4 bez5 bez6:List ARat)(bez7:Int)(acc2:Bool)(acc3 num:Int)(sam sam1 sam2:Bool)(num1:Int)(h1:Contract prg 10 [(lpv (lcell ARat.cells) [p,q,c.u,c.v,c.g])] (vB sho))(h2:sho=true)(h3:Contract prg 11 [] (vB awa))(h4:awa=true)(h5:Contract prg 35 [(polyPV p),(polyPV q)] (.tup [(polyPV bez),(polyPV bez1),(polyPV bez2),(errPV bez3)]))(h6:Contract prg 36 [(polyPV p),(polyPV q),(polyPV c.u),(polyPV c.v),(polyPV c.g)] (.tup [(vB acc),(errPV acc1)]))(h7:Contract prg 37 [(polyPV p),(polyPV q)] (.tup [(polyPV bez4),(polyPV bez5),(polyPV bez6),(vI bez7)]))(h8:Contract prg 38 [(polyPV p),(polyPV q),(polyPV c.u),(polyPV c.v),(polyPV c.g)] (.tup [(vB acc2),(vI acc3)]))(h9:Contract prg 18 [(errPV bez3)] (vI num))(h10:num=bez7)(h11:Contract prg 39 [(polyPV bez),(polyPV bez4)] (vB sam))(h12:sam=true)(h13:Contract prg 39 [(polyPV bez1),(polyPV bez5)] (vB sam1))(h14:sam1=true)(h15:Contract prg 39 [(polyPV bez2),(polyPV bez6)] (vB sam2))(h16:sam2=true)(h17:Contract prg 18 [(errPV acc1)] (vI num1))(h18:num1=acc3):Contract prg 8 [(polyPV p),(polyPV q),c.pv] (vB (acc==acc2)) :=
 Contract.ofL Tryz.func8 (by kernel_rfl) (L.done mixed tabOk (n:=111) (ns:=[3,1,1,1,1,1,1,1,1,1,1,1,1,1,1,1,1,1,1,1,1,1,1,1,1,1,1,1,1,1,1,1,1,1,1,1,1]) (tr:=[.reg [],.reg [.none,.none,.none,.none,.none,.none,.none,.none,(.slc 0 0 (([p,q,c.u,c.v,c.g]:List (List ARat)).map (lcell ARat.cells))),(.pv (vB sho)),.none,.none,(.pv (vB awa)),.none,(.dec false)],.dec false,.reg [.none,.none,(.pv (.tup [(polyPV bez),(polyPV bez1),(polyPV bez2),(errPV bez3)]))],.reg [.none,.none,.none,.none,.none,.none,.none,.none,(.pv (.tup [(vB acc),(errPV acc1)]))],.reg [.none,.none,(.pv (.tup [(polyPV bez4),(polyPV bez5),(polyPV bez6),(vI bez7)]))],.reg [.none,.none,.none,.none,.none,.none,.none,.none,(.pv (.tup [(vB acc2),(vI acc3)]))],.reg [.none,(.pv (vI num)),.none,.none,.none,.none,.none,(.pv (vB sam)),(.dec true),.none,.none,.none,(.pv (vB sam1)),(.dec true),.none,.none,.none,(.pv (vB sam2)),(.dec true),.none,.none,(.pv (vI num1)),.none,.none,(.dec true),.none,.none,.none,.none,(.dec true)]]) (cj (o_bs (sz_l ARat.cells) ([p,q,c.u,c.v,c.g]:List (List ARat))) (cj h1 (cj (bnot_f h2) (cj h3 (cj (bnot_f h2) (cj (bnot_f h2) (cj (bnot_f h4) (cj h5 (cj h6 (cj h7 (cj h8 (cj h9 (cj (deq_t h10) (cj (deq_t h10) (cj (deq_t h10) (cj h11 (cj (deq_t h10) (cj h12 (cj h12 (cj h12 (cj h13 (cj h12 (cj h14 (cj h14 (cj h14 (cj h15 (cj h14 (cj h16 (cj h16 (cj h17 (cj h16 (cj h16 (cj h16 (cj (deq_t h18) (cj (deq_t h18) (cj (deq_t h18) (cj (deq_t h18) True.intro))))))))))))))))))))))))))))))))))))) (by kernel_rfl))
end linkworklaw08_ResultantBezout
end Go.Proofs.YtboilcfohmmpbaaGreatDoor.Sym.Path
namespace Go.Proofs.YtboilcfohmmpbaaGreatDoor.Sym
open Go Path CInt Dt Rs
set_option linter.unusedVariables false
theorem ratT_int8(n:Int):ratT (n:Rat)=numT n:=by
 unfold ratT
 rw[if_pos (by rw[Rat.den_intCast];rfl),Rat.num_intCast]
namespace C08
theorem of(l:List Int)(h:∀n∈l,InI64 n)(hl:l.length≤1000):Contract prg 26 [lpv intCell l] (pq (l.map (fun n=>((n:Int):Rat)))):=by
 have loop:∀d t:Nat,l.length-t=d→t≤l.length→linkworklaw08_of.Loop1 (((l.take t).map (fun n=>((n:Int):Rat))).map mkR) l t (pq (l.map (fun n=>((n:Int):Rat)))):=by
  intro d
  induction d with
  |zero =>
   intro t hd ht
   have:t=l.length:=by omega
   subst this
   rw[List.take_length]
   exact linkworklaw08_of.l11 _ _ _ (Nat.le_refl _)
  |succ d ih =>
   intro t hd ht
   obtain⟨v,hv⟩:∃v,l[t]? = some v:=⟨_,List.getElem?_eq_getElem (by omega)⟩
   have:=ih (t+1) (by omega) (by omega)
   rw[List.take_add_one,hv] at this
   refine linkworklaw08_of.l10 _ l t v (mkR ((v:Int):Rat)) (by omega) hv (CRb.Of v (h v (List.mem_of_getElem? hv))) ?_ (by omega) ?_
   ·rw[List.length_append,List.length_map,List.length_map,List.length_take,List.length_singleton];omega
   ·simpa using this
 exact linkworklaw08_of.e0 l (loop _ 0 rfl (by omega))
def Lo(a:ARat):Prop:=a.num.length≤1∧a.den.length≤1∧nat a.num≤1000∧nat a.den≤1000
theorem nat_one{l:Words}{v:UInt32}(hl:l.length<2)(h:l[0]? = some v):nat l=v.toNat:=by
 match l,hl,h with
 |[w],_,h=>simp at h;subst h;simp[nat]
theorem nat_none{l:Words}(h:l.length=0):nat l=0:=by rw[List.eq_nil_of_length_eq_zero h];rfl
theorem low(x:ARat):∃b,Contract prg 41 [x.pv,vW 1000,vW 1000] (vB b)∧(b=true→Lo x):=by
 have e:(1000:UInt32).toNat=1000:=rfl
 by_cases h1:x.num.length<2
 ·by_cases h2:x.den.length<2
  ·have den:nat x.num≤1000→∀v u:UInt32,x.den[0]? = some u→decide (u.toNat≤(1000:UInt32).toNat)=true→Lo x:=fun h v u hu hd=>⟨by omega,by omega,h,by rw[nat_one h2 hu];have:=of_decide_eq_true hd;omega⟩
   by_cases h3:x.num.length=0
   ·have hn:nat x.num≤1000:=by rw[nat_none h3];omega
    by_cases h4:x.den.length=0
    ·exact⟨_,linkworklaw08_low.e0 x _ _ h1 h2 h3 h4,fun _=>⟨by omega,by omega,hn,by rw[nat_none h4];omega⟩⟩
    ·obtain⟨v,hv⟩:∃v,x.den[0]? = some v:=⟨_,List.getElem?_eq_getElem (by omega)⟩
     exact⟨_,linkworklaw08_low.e1 x _ _ v h1 h2 h3 h4 hv,fun h=>den hn v v hv (by have h':=of_decide_eq_true h;exact decide_eq_true (by omega))⟩
   ·obtain⟨v,hv⟩:∃v,x.num[0]? = some v:=⟨_,List.getElem?_eq_getElem (by omega)⟩
    by_cases h5:v.toNat≤(1000:UInt32).toNat
    ·have hn:nat x.num≤1000:=by rw[nat_one h1 hv];omega
     by_cases h4:x.den.length=0
     ·exact⟨_,linkworklaw08_low.e2 x _ _ v h1 h2 h3 hv h5 h4,fun _=>⟨by omega,by omega,hn,by rw[nat_none h4];omega⟩⟩
     ·obtain⟨u,hu⟩:∃v,x.den[0]? = some v:=⟨_,List.getElem?_eq_getElem (by omega)⟩
      exact⟨_,linkworklaw08_low.e3 x _ _ v u h1 h2 h3 hv h5 h4 hu,fun h=>den hn v u hu (by have h':=of_decide_eq_true h;exact decide_eq_true (by omega))⟩
    ·exact⟨_,linkworklaw08_low.e4 x _ _ v h1 h2 h3 hv (by omega),fun h=>by cases h⟩
  ·exact⟨_,linkworklaw08_low.e5 x _ _ h1 (by omega),fun h=>by cases h⟩
 ·exact⟨_,linkworklaw08_low.e6 x _ _ (by omega),fun h=>by cases h⟩
def ShP(p:List ARat):Prop:=(p.length≤6∨65<p.length∧p.length≤100)∧∀a∈p,Lo a
theorem short(l:List (List ARat))(hl:l.length≤1000):∃b,Contract prg 10 [lpv (lcell ARat.cells) l] (vB b)∧(b=true→∀p∈l,ShP p):=by
 have inner:∀(t:Nat) (v:List ARat),(v.length≤6∨65<v.length∧v.length≤100)→t<l.length→(∃b,linkworklaw08_short.Loop1 l (t+1) (vB b)∧(b=true→∀p∈l.drop (t+1),ShP p)) →
   ∀d u:Nat,v.length-u=d→∃b,linkworklaw08_short.Loop2 l t v u (vB b)∧(b=true→(∀a∈v.drop u,Lo a)∧∀p∈l.drop (t+1),ShP p):=by
  intro t v hv6 ht ⟨b0,hL,hB⟩ d
  induction d with
  |zero =>
   intro u hd
   exact⟨b0,linkworklaw08_short.l22 l t v u (by omega) (by omega) hL,fun h=>⟨(by rw[List.drop_of_length_le (by omega)];intro a ha;cases ha),hB h⟩⟩
  |succ d ih =>
   intro u hd
   obtain⟨a,ha⟩:∃a,v[u]? = some a:=⟨_,List.getElem?_eq_getElem (by omega)⟩
   obtain⟨b1,h1,h2⟩:=low a
   cases b1 with
   |false=>exact⟨false,linkworklaw08_short.l20 l t v u a _ (by omega) ha h1 rfl,fun h=>by cases h⟩
   |true =>
    obtain⟨b,g1,g2⟩:=ih (u+1) (by omega)
    refine⟨b,linkworklaw08_short.l21 l t v u a _ (by omega) ha h1 rfl (by omega) g1,fun h=>⟨fun x hx => ?_,(g2 h).2⟩⟩
    rw[drop_cons ha] at hx
    rcases List.mem_cons.1 hx with rfl|hx
    ·exact h2 rfl
    ·exact(g2 h).1 x hx
 have outer:∀d t:Nat,l.length-t=d→∃b,linkworklaw08_short.Loop1 l t (vB b)∧(b=true→∀p∈l.drop t,ShP p):=by
  intro d
  induction d with
  |zero =>
   intro t hd
   exact⟨true,linkworklaw08_short.l15 l t (by omega),fun _=>by rw[List.drop_of_length_le (by omega)];intro p hp;cases hp⟩
  |succ d ih =>
   intro t hd
   obtain⟨v,hv⟩:∃v,l[t]? = some v:=⟨_,List.getElem?_eq_getElem (by omega)⟩
   have fin:(v.length≤6∨65<v.length∧v.length≤100)→(∀b,linkworklaw08_short.Loop2 l t v 0 (vB b)→linkworklaw08_short.Loop1 l t (vB b))→∃b,linkworklaw08_short.Loop1 l t (vB b)∧(b=true→∀p∈l.drop t,ShP p):=by
    intro h6 hLL
    obtain⟨b,g1,g2⟩:=inner t v h6 (by omega) (ih (t+1) (by omega)) _ 0 rfl
    refine⟨b,hLL b g1,fun h p hp => ?_⟩
    rw[drop_cons hv] at hp
    rcases List.mem_cons.1 hp with rfl|hp
    ·have:=(g2 h).1
     rw[List.drop_zero] at this
     exact⟨h6,this⟩
    ·exact(g2 h).2 p hp
   by_cases h6:v.length≤6
   ·exact fin (Or.inl h6) (fun b g=>linkworklaw08_short.l14 l t v (by omega) hv h6 (by omega) g)
   ·by_cases h7:v.length≤65
    ·exact⟨false,linkworklaw08_short.l10 l t v (by omega) hv (by omega) h7,fun h=>by cases h⟩
    ·by_cases h8:v.length≤100
     ·exact fin (Or.inr ⟨by omega,h8⟩) (fun b g=>linkworklaw08_short.l12 l t v (by omega) hv (by omega) (by omega) h8 g)
     ·exact⟨false,linkworklaw08_short.l11 l t v (by omega) hv (by omega) (by omega) (by omega),fun h=>by cases h⟩
 obtain⟨b,h1,h2⟩:=outer _ 0 rfl
 rw[List.drop_zero] at h2
 exact⟨b,linkworklaw08_short.e0 l h1,h2⟩
theorem same(q:List Rat)(hl:q.length≤1000)(hf:Fl 68719476736 q):Contract prg 39 [pq q,pq q] (vB true):=by
 have:=CBa.Rats (q.map mkR) (q.map mkR) (by rw[lenM];omega) (fun a ha=>by
  obtain⟨x,hx,rfl⟩:=List.mem_map.1 ha
  have:=fit_mkRk (hf x hx)
  omega)
 rw[eqRs_self] at this
 exact linkworkref05_Same.e0 _ _ _ this
theorem ShP.fit{p:List ARat}(h:ShP p){k:Nat}(hk:1≤k):FitP k p:=fun a ha=>⟨Nat.le_trans (h.2 a ha).1 hk,Nat.le_trans (h.2 a ha).2.1 hk⟩
structure S8 (p:List ARat):Prop where
 ep:(vals p).map mkR=p
 zp:lastZ (vals p)=false
 len:(vals p).length≤6
 fl:Fl 1 (vals p)
 pl:p.length=(vals p).length
theorem ShP.s8{p:List ARat}(h:ShP p)(hc:chk p=0):S8 p:=by
 have hl:=chk_len hc
 have pl:p.length=(vals p).length:=by unfold vals;rw[List.length_map]
 refine⟨vals_of (chk_valid hc),chk_last hc,?_,fl_vals (h.fit (by omega)) (by omega),pl⟩
 rcases h.1 with h1|h1<;>omega
theorem S8.ch{p:List ARat}(s:S8 p):Ch 7 (vals p):=(Ch.of_fl s.fl).mono (by have:=s.len;omega)
theorem S8.pv{p:List ARat}(s:S8 p):pq (vals p)=polyPV p:=by unfold pq;rw[s.ep]
theorem S8.bz{p q:List ARat}(s:S8 p)(u:S8 q):Bz (vals p) (vals q):=⟨s.zp,u.zp,s.len,u.len,s.fl,u.fl⟩
theorem rsOk{p q:List Rat}(zp:lastZ p=false)(zq:lastZ q=false)(p0:p≠[])(q0:q≠[])(fp:Fl 20 p)(fq:Fl 20 q)(h:p.length+q.length≤12):RsOk 20 p q:=by
 refine⟨zp,zq,p0,q0,by omega,by omega,by omega,fp,fq,by omega,?_⟩
 have h1:=List.length_pos_iff.2 p0
 have h2:=List.length_pos_iff.2 q0
 have h4:5^(p.length-1+(q.length-1)+1)≤5^11:=Nat.pow_le_pow_right (by omega) (by omega)
 have h5:5^(p.length-1+(q.length-1)+1)*20≤5^11*20:=Nat.mul_le_mul_right _ h4
 exact Nat.le_trans h5 (by decide)
abbrev exA:List Rat:=[((-2:Int):Rat),((0:Int):Rat),((1:Int):Rat)]
abbrev exB:List Rat:=[((-3:Int):Rat),((1:Int):Rat)]
abbrev exC:List Rat:=[((0:Int):Rat),((-1:Int):Rat),((0:Int):Rat),((1:Int):Rat)]
abbrev exD:List Rat:=[((2:Int):Rat),((-3:Int):Rat),((0:Int):Rat),((1:Int):Rat)]
abbrev exE:List Rat:=[((0:Int):Rat),((1:Int):Rat)]
abbrev exF:List Rat:=[((-1:Int):Rat),((1:Int):Rat)]
theorem awake:Contract prg 11 [] (vB true):=by
 have a1:=of [-2,0,1] (by unfold InI64;decide) (by decide)
 have a2:=of [-3,1] (by unfold InI64;decide) (by decide)
 have a3:=of [0, -1,0,1] (by unfold InI64;decide) (by decide)
 have a4:=of [2, -3,0,1] (by unfold InI64;decide) (by decide)
 have a5:=of [0,1] (by unfold InI64;decide) (by decide)
 have a6:=of [-1,1] (by unfold InI64;decide) (by decide)
 have a7:=of [1] (by unfold InI64;decide) (by decide)
 have a8:=of [-1] (by unfold InI64;decide) (by decide)
 have fA:Fl 1 exA:=by decide +kernel
 have fB:Fl 1 exB:=by decide +kernel
 have fC:Fl 1 exC:=by decide +kernel
 have fD:Fl 1 exD:=by decide +kernel
 have fE:Fl 1 exE:=by decide +kernel
 have fF:Fl 1 exF:=by decide +kernel
 have r1:=CRsP.ResultantQ (rsOk (p:=exA) (q:=exB) (by decide +kernel) (by decide +kernel) (by simp) (by simp) (fl_mono fA (by omega)) (fl_mono fB (by omega)) (by decide))
 have e1:res exA exB=((7:Int):Rat):=by decide +kernel
 rw[e1] at r1
 have r2:=CRsP.DiscriminantQ (p:=exC) ⟨by decide +kernel,by decide,by decide,fC⟩
 have e2:discL exC=((4:Int):Rat):=by decide +kernel
 rw[e2] at r2
 have r3:=CRsP.DiscriminantQ (p:=exD) ⟨by decide +kernel,by decide,by decide,fD⟩
 have e3:discL exD=((0:Int):Rat):=by decide +kernel
 rw[e3] at r3
 have r4:=CRsP.BezoutQ (p:=exE) (q:=exF) ⟨by decide +kernel,by decide +kernel,by decide,by decide,fE,fF⟩ (by simp)
 have e4:bzu exE exF=[((1:Int):Rat)]:=by decide +kernel
 have e5:bzv exE exF=[((-1:Int):Rat)]:=by decide +kernel
 have e6:gcdL exE exF=[((1:Int):Rat)]:=by decide +kernel
 rw[e4,e5,e6] at r4
 have t1:=CTx.fText_small ((7:Int):Rat) (by decide) (by decide)
 have t2:=CTx.fText_small ((4:Int):Rat) (by decide) (by decide)
 have n1:numT 7=ByteArray.mk #[55]:=by unfold numT;rw[if_neg (by decide),show(7:Int).natAbs=7 from rfl,dig_small (by omega)];rfl
 have n2:numT 4=ByteArray.mk #[52]:=by unfold numT;rw[if_neg (by decide),show(4:Int).natAbs=4 from rfl,dig_small (by omega)];rfl
 rw[ratT_int8,n1] at t1
 rw[ratT_int8,n2] at t2
 have s1:=same [((1:Int):Rat)] (by decide) (by decide +kernel)
 have s2:=same [((-1:Int):Rat)] (by decide) (by decide +kernel)
 have g1:=QF.Sign ((0:Int):Rat) (by decide)
 exact linkworklaw08_awake.e0 _ _ _ _ _ _ _ _ _ _ _ _ _ _ _ _ _ _ _ _ _ a1 a2 r1 a3 r2 a4 r3 a5 a6 r4 t1 rfl t2 rfl g1 (by decide +kernel) a7 s1 rfl a8 s2 rfl a7 s1
end C08
end Go.Proofs.YtboilcfohmmpbaaGreatDoor.Sym

namespace Go.Proofs.YtboilcfohmmpbaaGreatDoor.Sym
open Go Path CInt Dt Rs
set_option linter.unusedVariables false
def accT(S p q g:List Rat):Bool:=decide (g≠[]∧topL g=1∧S=g∧restL p g=[]∧restL q g=[])
def accB(p q u v g:List Rat):Bool:=accT (trimL (addL (trimL (mulL u p)) (trimL (mulL v q)))) p q g
structure AcOk (p q u v g:List Rat):Prop where
 zp:lastZ p=false
 zq:lastZ q=false
 zu:lastZ u=false
 zv:lastZ v=false
 zg:lastZ g=false
 lp:p.length≤6
 lq:q.length≤6
 lu:u.length≤12
 lv:v.length≤12
 lg:g.length≤6
 fp:Fl 1 p
 fq:Fl 1 q
 fu:Fl 1140030200 u
 fv:Fl 1140030200 v
 cg:Ch 30000 g
theorem fl_mul6{u p:List Rat}(lp:p.length≤6)(fu:Fl 1140030200 u)(fp:Fl 1 p):Fl 6840181213 (trimL (mulL u p)):=by
 refine fl_trimL (fl_of_coef (fun i => ?_))
 have h:=ht_mul_take fu fp (by omega) (by omega) (Or.inr lp) u.length i
 rw[List.take_length] at h
 omega
theorem fl_acc{u v p q:List Rat}(lp:p.length≤6)(lq:q.length≤6)(fu:Fl 1140030200 u)(fv:Fl 1140030200 v)(fp:Fl 1 p)(fq:Fl 1 q):Fl 13680362427 (trimL (addL (trimL (mulL u p)) (trimL (mulL v q)))):=by
 refine fl_trimL (fl_of_coef (fun i => ?_))
 have h1:=fl_coef (fl_mul6 lp fu fp) (by omega) i
 have h2:=fl_coef (fl_mul6 lq fv fq) (by omega) i
 have h3:=ht_add (coef (trimL (mulL u p)) i) (coef (trimL (mulL v q)) i)
 rw[coef_addL]
 omega
theorem len_mul8{u p:List Rat}(lu:u.length≤12)(lp:p.length≤6):(trimL (mulL u p)).length≤18:=by
 have h1:=len_trimL (mulL u p)
 have h2:=len_mulL u p
 omega
theorem chk5{l:List (List Rat)}(h:∀p∈l,lastZ p=false∧p.length≤65):chkL (l.map (fun p=>p.map mkR))=0:=by
 induction l with
 |nil=>rfl
 |cons p l ih =>
  rw[List.map_cons,chkL,if_pos (chk_map (h p (by simp)).1 (h p (by simp)).2)]
  exact ih (fun q hq=>h q (by simp[hq]))
theorem AcOk.chk{p q u v g:List Rat}(h:AcOk p q u v g):chkL [p.map mkR,q.map mkR,u.map mkR,v.map mkR,g.map mkR]=0:=by
 refine chk5 (l:=[p,q,u,v,g]) (fun x hx => ?_)
 simp at hx
 have:=h.lp;have:=h.lq;have:=h.lu;have:=h.lv;have:=h.lg
 rcases hx with rfl|rfl|rfl|rfl|rfl
 ·exact⟨h.zp,by omega⟩
 ·exact⟨h.zq,by omega⟩
 ·exact⟨h.zu,by omega⟩
 ·exact⟨h.zv,by omega⟩
 ·exact⟨h.zg,by omega⟩
theorem AcOk.fit{p q u v g:List Rat}(h:AcOk p q u v g):∀x∈[p.map mkR,q.map mkR,u.map mkR,v.map mkR,g.map mkR],FitP 274877906944 x:=by
 intro x hx
 simp at hx
 rcases hx with rfl|rfl|rfl|rfl|rfl
 ·exact fitQ h.fp (by omega)
 ·exact fitQ h.fq (by omega)
 ·exact fitQ h.fu (by omega)
 ·exact fitQ h.fv (by omega)
 ·exact fitQ (h.cg.fl (by omega)) (by omega)
theorem AcOk.div{p q u v g:List Rat}(h:AcOk p q u v g){x:List Rat}(lx:x.length≤6):2*(7+(x.length+1-g.length)*(30000+1))+3*30000+5≤68719476736:=by
 have:(x.length+1-g.length)*(30000+1)≤7*(30000+1):=Nat.mul_le_mul_right _ (by omega)
 omega
namespace CRsP
theorem same(a b:List Rat)(ha:Fl 68719476736 a)(hb:Fl 68719476736 b)(hl:a.length≤1000):Contract prg 83 [pq a,pq b] (vB (decide (a=b))):=by
 by_cases h:a.length=b.length
 ·have loop:∀d t:Nat,t+d=a.length→resultant_same.Loop1 (a.map mkR) (b.map mkR) t (vB (decide (a.drop t=b.drop t))):=by
   intro d
   induction d with
   |zero =>
    intro t ht
    rw[show a.drop t=[] from List.drop_eq_nil_of_le (by omega),show b.drop t=[] from List.drop_eq_nil_of_le (by omega)]
    exact resultant_same.l12 _ _ t (by rw[lenM];omega)
   |succ d ih =>
    intro t ht
    obtain⟨x,hx⟩:∃x,a[t]? = some x:=⟨_,List.getElem?_eq_getElem (by omega)⟩
    obtain⟨y,hy⟩:∃y,b[t]? = some y:=⟨_,List.getElem?_eq_getElem (by omega)⟩
    have hc:=QF.Cmp x y (ha x (List.mem_of_getElem? hx)) (hb y (List.mem_of_getElem? hy))
    rw[drop_cons hx,drop_cons hy]
    by_cases e:x=y
    ·subst e
     have:decide (x::a.drop (t+1)=x::b.drop (t+1))=decide (a.drop (t+1)=b.drop (t+1)):=by
      rw[Bool.eq_iff_iff,decide_eq_true_iff,decide_eq_true_iff];simp
     rw[this]
     exact resultant_same.l11 _ _ t _ _ _ (by rw[lenM];omega) (getM hx) (getM hy) hc (cmpR_eq.2 rfl) (by omega) (ih (t+1) (by omega))
    ·have:decide (x::a.drop (t+1)=y::b.drop (t+1))=false:=decide_eq_false (fun h=>e (List.cons.inj h).1)
     rw[this]
     exact resultant_same.l10 _ _ t _ _ _ (by rw[lenM];omega) (getM hx) (getM hy) hc (fun h=>e (cmpR_eq.1 h))
  exact resultant_same.e1 _ _ (by rw[lenM,lenM];exact h) (loop a.length 0 (by omega))
 ·rw[decide_eq_false (fun e=>h (by rw[e]))]
  exact resultant_same.e0 _ _ (by rw[lenM,lenM];exact h)
theorem AcceptsQ{p q u v g:List Rat}(h:AcOk p q u v g):Contract prg 36 [pq p,pq q,pq u,pq v,pq g] (.tup [vB (accB p q u v g),.nilI]):=by
 have lp:=h.lp;have lq:=h.lq;have lu:=h.lu;have lv:=h.lv;have lg:=h.lg
 have hc:=CRs.checks [p.map mkR,q.map mkR,u.map mkR,v.map mkR,g.map mkR] (by simp) h.fit
 rw[h.chk] at hc
 have m1:=PQ.Mul (a:=1140030200) (b:=1) 6 u p h.zu h.zp (by omega) (by omega) h.fu h.fp (by omega) (by omega) (Or.inr lp) (by omega) (by omega)
 have m2:=PQ.Mul (a:=1140030200) (b:=1) 6 v q h.zv h.zq (by omega) (by omega) h.fv h.fq (by omega) (by omega) (Or.inr lq) (by omega) (by omega)
 have f1:=fl_mul6 lp h.fu h.fp
 have f2:=fl_mul6 lq h.fv h.fq
 have l1:=len_mul8 lu lp
 have l2:=len_mul8 lv lq
 have m3:=PQ.Add (a:=6840181213) (b:=6840181213) (trimL (mulL u p)) (trimL (mulL v q)) (lastZ_trimL _) (lastZ_trimL _) (by omega) (by omega) f1 f2 (by omega) (by omega) (by omega)
 have f3:=fl_acc lp lq h.fu h.fv h.fp h.fq
 have l3:(trimL (addL (trimL (mulL u p)) (trimL (mulL v q)))).length≤18:=by
  have h1:=len_trimL (addL (trimL (mulL u p)) (trimL (mulL v q)))
  rw[len_addL] at h1
  omega
 unfold accB accT
 generalize trimL (addL (trimL (mulL u p)) (trimL (mulL v q)))=S at *
 by_cases g0:g=[]
 ·rw[decide_eq_false (fun h=>h.1 g0)]
  exact resultant_Accepts.e0 _ _ _ _ (g.map mkR) _ _ _ hc m1 m2 m3 (by rw[g0];rfl)
 ·have hgl:=List.length_pos_iff.2 g0
  have hta:=ht_top h.cg (by omega)
  have h11:Sym.ht 1=1:=by decide
  have hcm:=QF.Cmp (topL g) 1 (by omega) (by omega)
  by_cases t1:topL g=1
  ·have hs:=same S g (fl_mono f3 (by omega)) (h.cg.fl (by omega) |> fun h=>fl_mono h (by omega)) (by omega)
   by_cases s1:S=g
   ·rw[decide_eq_true s1] at hs
    refine resultant_Accepts.e3 _ _ _ _ (g.map mkR) _ _ _ (g.length-1) (mkR (topL g)) (mkR 1) _ _ hc m1 m2 m3 (by rw[lenM];omega) (by rw[lenM];unfold InI64;omega) (by rw[lenM];omega) (getM (getTop g0)) (CFr.Of 1 ⟨by decide,by decide⟩) hcm (cmpR_eq.2 t1) hs rfl ?_
    have d1:=PQ.Div p g h.zp h.zg g0 (by omega) (by omega) ((Ch.of_fl h.fp).mono (by omega)) h.cg (by omega) (by omega) (h.div lp)
    have d2:=PQ.Div q g h.zq h.zg g0 (by omega) (by omega) ((Ch.of_fl h.fq).mono (by omega)) h.cg (by omega) (by omega) (h.div lq)
    by_cases r1:restL p g=[]
    ·refine resultant_Accepts.l11 _ 0 _ _ (p.map mkR) _ _ (by omega) rfl d1 (by rw[lenM];have:(divL p g).2=[]:=r1;rw[this];simp) (by omega) ?_
     by_cases r2:restL q g=[]
     ·rw[decide_eq_true ⟨g0,t1,s1,r1,r2⟩]
      exact resultant_Accepts.l11 _ 1 _ _ (q.map mkR) _ _ (by omega) rfl d2 (by rw[lenM];have:(divL q g).2=[]:=r2;rw[this];simp) (by omega) (resultant_Accepts.l13 _ 2 _ _ (by omega))
     ·rw[decide_eq_false (fun h=>r2 h.2.2.2.2)]
      exact resultant_Accepts.l10 _ 1 _ _ (q.map mkR) _ _ (by omega) rfl d2 (by rw[lenM];exact List.length_pos_iff.2 r2)
    ·rw[decide_eq_false (fun h=>r1 h.2.2.2.1)]
     exact resultant_Accepts.l10 _ 0 _ _ (p.map mkR) _ _ (by omega) rfl d1 (by rw[lenM];exact List.length_pos_iff.2 r1)
   ·rw[decide_eq_false s1] at hs
    rw[decide_eq_false (fun h=>s1 h.2.2.1)]
    exact resultant_Accepts.e2 _ _ _ _ (g.map mkR) _ _ _ (g.length-1) (mkR (topL g)) (mkR 1) _ _ hc m1 m2 m3 (by rw[lenM];omega) (by rw[lenM];unfold InI64;omega) (by rw[lenM];omega) (getM (getTop g0)) (CFr.Of 1 ⟨by decide,by decide⟩) hcm (cmpR_eq.2 t1) hs rfl
  ·rw[decide_eq_false (fun h=>t1 h.2.1)]
   exact resultant_Accepts.e1 _ _ _ _ (g.map mkR) _ _ _ (g.length-1) (mkR (topL g)) (mkR 1) _ hc m1 m2 m3 (by rw[lenM];omega) (by rw[lenM];unfold InI64;omega) (by rw[lenM];omega) (getM (getTop g0)) (CFr.Of 1 ⟨by decide,by decide⟩) hcm (fun e=>t1 (cmpR_eq.1 e))
end CRsP
theorem trim_self{p:List Rat}(h:lastZ p=false):trimL p=p:=coef_inj (lastZ_trimL p) h (coef_trimL p)
namespace C08
theorem S8.ac{p q u v g:List ARat}(s1:S8 p)(s2:S8 q)(s3:S8 u)(s4:S8 v)(s5:S8 g):AcOk (vals p) (vals q) (vals u) (vals v) (vals g) :=
 ⟨s1.zp,s2.zp,s3.zp,s4.zp,s5.zp,s1.len,s2.len,by have:=s3.len;omega,by have:=s4.len;omega,s5.len,s1.fl,s2.fl,fl_mono s3.fl (by omega),fl_mono s4.fl (by omega),s5.ch.mono (by omega)⟩
end C08
end Go.Proofs.YtboilcfohmmpbaaGreatDoor.Sym
namespace Go.Proofs.YtboilcfohmmpbaaGreatDoor.Sym
open Go Path CInt Dt Rs
set_option linter.unusedVariables false
namespace CRsR
theorem over_zero(a:List Rat)(N:Nat)(h:a.length≤N):(a.map mkR).take (min (a.map mkR).length N)++(List.replicate N (⟨false,[],[]⟩:ARat)).drop (min (a.map mkR).length N)=(tabL N (coef a)).map mkR:=by
 rw[lenM,Nat.min_eq_left h]
 refine List.ext_getElem? (fun i => ?_)
 rw[List.take_of_length_le (by rw[lenM];omega)]
 by_cases hi:i<N
 ·rw[getM (tabL_get _ hi)]
  by_cases h2:i<a.length
  ·rw[List.getElem?_append_left (by rw[lenM];exact h2),getM (coef_get h2)]
  ·rw[List.getElem?_append_right (by rw[lenM];omega),List.getElem?_drop,List.getElem?_replicate,lenM,if_pos (by omega),coef_ge (by omega)];rfl
 ·rw[List.getElem?_eq_none (by rw[List.length_append,lenM,List.length_drop,List.length_replicate];omega),List.getElem?_eq_none (by rw[lenM,tabL_len];omega)]
theorem less{A B C:Nat}(n:Nat)(a x b R:List Rat)(hR:∀i,coef R i=coef a i-coef (mulL x b) i)(la:a.length≤10000)(lx:x.length≤10000)(lb:b.length≤10000)(fa:Fl A a)(fx:Fl B x)(fb:Fl C b)(hA:1≤A)(hB:1≤B)(hC:1≤C)(hn:x.length≤n∨b.length≤n)(hk:A+(n+2)*(B+C+1)+10≤68719476736) :
  Contract prg 86 [pq a,pq x,pq b] (pq (trimL R)):=by
 rw[Nat.add_mul] at hk
 have hN:max (a.map mkR).length ((x.map mkR).length+(b.map mkR).length)=max a.length (x.length+b.length):=by rw[lenM,lenM,lenM]
 have bA:∀i,ht (coef a i)≤A:=fl_coef fa hA
 have bG:=ht_mul_take fx fb hB hC hn
 have high:∀i,max a.length (x.length+b.length)≤i→∀t,coef (mulL (x.take t) b) i=0:=fun i hi t=>mul_high (by rw[List.length_take];omega)
 have outer:∀(j t:Nat),x.length-t=j→t≤x.length→linkworkref08_less.Loop1 (b.map mkR) (a.map mkR) (x.map mkR) t ((tabL (max a.length (x.length+b.length)) (fun i=>coef a i-coef (mulL (x.take t) b) i)).map mkR) (pq (trimL R)):=by
  intro j
  induction j with
  |zero =>
   intro t hj ht
   have e:trimL R=trimL (tabL (max a.length (x.length+b.length)) (fun i=>coef a i-coef (mulL (x.take t) b) i)):=by
    refine trimL_ext (fun i => ?_)
    rw[hR,tabL_coef (fun i hi=>by rw[coef_ge (p:=a) (by omega),high i hi];grind),List.take_of_length_le (by omega)]
   rw[e]
   refine linkworkref08_less.l11 _ _ _ t _ _ (by rw[lenM];omega) (by rw[hN,lenM,tabL_len]) (CPr.Trim (k:=68719476736) _ (by rw[tabL_len];omega) (fl_of_coef (fun i => ?_)) (by omega))
   rw[tabL_coef (fun i hi=>by rw[coef_ge (p:=a) (by omega),high i hi];grind)]
   have h1:=ht_sub (coef a i) (coef (mulL (x.take t) b) i)
   have h2:=bG t i
   have h3:=bA i
   omega
  |succ j ih =>
   intro t hj ht
   obtain⟨v,hv⟩:∃v,x[t]? = some v:=⟨_,List.getElem?_eq_getElem (by omega)⟩
   have hvh:=fx v (List.mem_of_getElem? hv)
   refine linkworkref08_less.l10 _ _ _ t _ (mkR v) (by rw[lenM];omega) (getM hv) ?_
   have inner:∀(k u:Nat),b.length-u=k→u≤b.length→linkworkref08_less.Loop2 (b.map mkR) (a.map mkR) (x.map mkR) t t u (mkR v) ((tabL (max a.length (x.length+b.length)) (fun i=>coef a i-coef (mulL (x.take t) b) i-if t≤i∧i<t+u then v*coef b (i-t) else 0)).map mkR) (pq (trimL R)):=by
    intro k
    induction k with
    |zero =>
     intro u hk2 hu
     refine linkworkref08_less.l21 _ _ _ t t u _ _ (by rw[lenM];omega) (by omega) ?_
     have:=ih (t+1) (by omega) (by omega)
     rwa[tabL_congr (f:=fun i=>coef a i-coef (mulL (x.take (t+1)) b) i) (g:=fun i=>coef a i-coef (mulL (x.take t) b) i-if t≤i∧i<t+u then v*coef b (i-t) else 0) (fun i hi=>by
      rw[coef_mul_snoc hv,coef_shiftL,coef_smulL]
      by_cases h1:i<t
      ·rw[if_pos h1,if_neg (by omega)];grind
      ·rw[if_neg h1]
       by_cases h2:i<t+u
       ·rw[if_pos (by omega)];grind
       ·rw[if_neg (by omega),coef_ge (p:=b) (by omega),Rat.mul_zero];grind)] at this
    |succ k ih2 =>
     intro u hk2 hu
     obtain⟨w,hw⟩:∃w,b[u]? = some w:=⟨_,List.getElem?_eq_getElem (by omega)⟩
     have hwh:=fb w (List.mem_of_getElem? hw)
     have hg:t+u<max a.length (x.length+b.length):=by omega
     have b1:=bG t (t+u)
     have b2:=ht_mul v w
     have b3:=ht_sub (coef a (t+u)) (coef (mulL (x.take t) b) (t+u))
     have b4:=bA (t+u)
     refine linkworkref08_less.l20 _ _ _ t t u _ _ (mkR w) (mkR (coef a (t+u)-coef (mulL (x.take t) b) (t+u))) _ _ (by rw[lenM];omega) (getM hw) (by omega) (by rw[hN];exact hg) ?_ (QR.Mul v w (by omega) (by omega)) (QR.Sub (coef a (t+u)-coef (mulL (x.take t) b) (t+u)) (v*w) (by omega) (by omega)) (by rw[lenM,tabL_len];omega) (by omega) ?_
     ·rw[getM (tabL_get _ hg),if_neg (by omega)]
      congr 2;grind
     ·rw[tab_step (f:=fun i=>coef a i-coef (mulL (x.take t) b) i-if t≤i∧i<t+(u+1) then v*coef b (i-t) else 0) hg (by
       rw[if_pos (by omega),show t+u-t=u from by omega,coef_of hw]) (fun i hi=>by
       congr 1
       by_cases h:t≤i∧i<t+u
       ·rw[if_pos h,if_pos (by omega)]
       ·rw[if_neg h,if_neg (by omega)])]
      exact ih2 (u+1) (by omega) (by omega)
   have:=inner _ 0 rfl (by omega)
   rwa[tabL_congr (g:=fun i=>coef a i-coef (mulL (x.take t) b) i) (fun i hi=>by rw[if_neg (by omega)];grind)] at this
 have:=outer _ 0 rfl (by omega)
 refine linkworkref08_less.e0 _ _ _ (by rw[lenM,lenM];omega) (by rw[hN];omega) (by rw[hN,List.length_replicate];omega) ?_
 rw[hN,over_zero a _ (by omega)]
 rwa[tabL_congr (g:=coef a) (fun i hi=>by rw[List.take_zero];show _-(0:Rat)=_;grind)] at this
theorem quotient{h b:Nat}(p q:List Rat)(zp:lastZ p=false)(hz:lastZ q=false)(hq0:q≠[])(hp:Ch h p)(hq:Ch b q)(h1:1≤h)(hb1:1≤b)(hlp:p.length≤10000)(hlq:q.length≤10000)(hk:2*(h+(p.length+1-q.length)*(b+1))+3*b+5≤68719476736):Contract prg 88 [pq p,pq q] (pq (divL p q).1):=by
 have hql:=List.length_pos_iff.2 hq0
 have hqt:=ht_top hq hb1
 have htop:=top_ne hz hq0
 have e0:trimL p=p:=trim_self zp
 have e1:divL p q=divF (p.length+1) [] p q:=by unfold divL;rw[e0]
 rw[e1]
 by_cases hlt0:p.length<q.length
 ·have e2:divF (p.length+1) [] p q=([],p):=by
   rw[divF,show Nat.blt p.length q.length=true from blt_iff.2 hlt0,cond_true]
  rw[e2]
  exact linkworkref08_quotient.e0 _ _ (by rw[lenM,lenM];exact hlt0)
 obtain⟨H,hH⟩:∃H,H=h+(p.length+1-q.length)*(b+1):=⟨_,rfl⟩
 rw[←hH] at hk
 have hqc:∀i,ht (coef q i)≤b:=fun i=>by have:=hq.ht i;omega
 have loop:∀(i n hc:Nat) (out rest:List Rat),rest.length<n→rest.length≤i+q.length-1→i≤p.length+1-q.length→1≤hc→Ch hc rest→hc+i*(b+1)≤H→lastZ out=false→lastZ rest=false→out.length≤p.length+1-q.length→(∀i,ht (coef out i)≤H+b)→(∀k,k<i→coef out k=0) →
   linkworkref08_quotient.Loop1 (q.map mkR) (p.map mkR).length (p.length+1-q.length) ((i:Int)-1) ((tabL p.length (coef rest)).map mkR) ((tabL (p.length+1-q.length) (coef out)).map mkR) (pq (divF n out rest q).1):=by
  intro i
  induction i with
  |zero =>
   intro n hc out rest hn hri him hc1 hr hcH zo zr lo ho hout
   obtain⟨n',rfl⟩:∃n',n=n'+1:=⟨n-1,by omega⟩
   rw[divF,show Nat.blt rest.length q.length=true from blt_iff.2 (by omega),cond_true]
   have e:trimL (tabL (p.length+1-q.length) (coef out))=out:=by
    rw[←trimL_of zo]
    refine trimL_ext (fun i => ?_)
    rw[trimL_of zo]
    exact tabL_coef (fun i hi=>coef_ge (by omega)) i
   have ht:=CPr.Trim (k:=H+b) (tabL (p.length+1-q.length) (coef out)) (by rw[tabL_len];omega) (fl_of_coef (fun i=>by
    rw[tabL_coef (fun i hi=>coef_ge (by omega))];exact ho i)) (by omega)
   rw[e] at ht
   exact linkworkref08_quotient.l11 _ _ _ _ _ _ _ (by omega) (by rw[lenM,tabL_len]) ht
  |succ i ih =>
   intro n hc out rest hn hri him hc1 hr hcH zo zr lo ho hout
   rw[Nat.add_mul,Nat.one_mul] at hcH
   have hrc:∀i,ht (coef rest i)≤hc:=fun i=>by have:=hr.ht i;omega
   have hv:=hrc (i+q.length-1)
   have hcc:ht (coef rest (i+q.length-1)/topL q)≤hc+b:=by
    have:=ht_div (coef rest (i+q.length-1)) (topL q)
    omega
   have hdiv:=QR.Div (coef rest (i+q.length-1)) (topL q) (by omega) (by omega) htop
   obtain⟨c,hc0⟩:∃c,c=coef rest (i+q.length-1)/topL q:=⟨_,rfl⟩
   rw[←hc0] at hcc hdiv
   have ei:((i+1:Nat):Int)-1=(i:Int):=by omega
   rw[ei]
   refine linkworkref08_quotient.l10 _ _ _ _ _ _ (i+q.length-1) (mkR (coef rest (i+q.length-1))) (q.length-1) (mkR (topL q)) (mkR c) _ i (by omega) (by rw[lenM];unfold InI64;omega) (by rw[lenM];unfold InI64;omega) (by rw[lenM];omega) (by rw[lenM];omega) (getM (tabL_get _ (by omega))) (by rw[lenM];unfold InI64;omega) (by rw[lenM];omega) (getM (getTop hq0)) hdiv rfl (by omega) (by rw[lenM,tabL_len];omega) ?_
   have main:∀(out' rest':List Rat),(∀k,coef out' k=if k=i then c else coef out k)→(∀k,k<p.length→coef rest' k=coef rest k-if i≤k∧k<i+q.length then c*coef q (k-i) else 0) →
     linkworkref08_quotient.Loop1 (q.map mkR) (p.map mkR).length (p.length+1-q.length) ((i:Int)-1) ((tabL p.length (coef rest')).map mkR) ((tabL (p.length+1-q.length) (coef out')).map mkR) (pq (divF n out rest q).1) →
     linkworkref08_quotient.Loop2 (q.map mkR) (p.map mkR).length (p.length+1-q.length) (i:Int) 0 ((tabL p.length (coef rest)).map mkR) (((tabL (p.length+1-q.length) (coef out)).map mkR).set i (mkR c)) (pq (divF n out rest q).1):=by
    intro out' rest' ho' hr' hL
    rw[tab_step (f:=coef out') (by omega) (by rw[ho',if_pos rfl]) (fun k hk=>by rw[ho',if_neg hk])]
    have inner:∀(j t:Nat),q.length-t=j→t≤q.length→linkworkref08_quotient.Loop2 (q.map mkR) (p.map mkR).length (p.length+1-q.length) (i:Int) t ((tabL p.length (fun k=>coef rest k-if i≤k∧k<i+t then c*coef q (k-i) else 0)).map mkR) ((tabL (p.length+1-q.length) (coef out')).map mkR) (pq (divF n out rest q).1):=by
     intro j
     induction j with
     |zero =>
      intro t hj ht
      have:t=q.length:=by omega
      subst this
      refine linkworkref08_quotient.l21 _ _ _ _ _ _ _ (by rw[lenM];omega) (by unfold InI64;omega) ?_
      rw[tabL_congr (g:=coef rest') (fun k hk=>(hr' k hk).symm)]
      exact hL
     |succ j ih2 =>
      intro t hj ht
      obtain⟨w,hw⟩:∃w,q[t]? = some w:=⟨_,List.getElem?_eq_getElem (by omega)⟩
      have hwc:=coef_of hw
      have a2:=hqc t
      rw[hwc] at a2
      have a1:=hrc (i+t)
      have a3:=ht_mul c w
      have hg:i+t<p.length:=by omega
      refine linkworkref08_quotient.l20 _ _ _ _ _ _ _ (mkR w) (i+t) (mkR (coef rest (i+t))) i (mkR c) _ _ (i+t) (by rw[lenM];omega) (getM hw) (by unfold InI64;omega) (by omega) (by rw[lenM];omega) ?_ rfl (by omega) ?_ (QR.Mul _ _ (by omega) (by omega)) (QR.Sub (coef rest (i+t)) (c*w) (by omega) (by omega)) (by omega) (by rw[lenM];omega) (by rw[lenM,tabL_len];omega) (by omega) ?_
      ·rw[getM (tabL_get _ hg),if_neg (by omega)]
       congr 2;grind
      ·rw[getM (tabL_get _ (by omega)),ho',if_pos rfl]
      ·rw[tab_step (f:=fun k=>coef rest k-if i≤k∧k<i+(t+1) then c*coef q (k-i) else 0) hg (by
        rw[if_pos (by omega),show i+t-i=t from by omega,hwc]) (fun k hk=>by
        by_cases h:i≤k∧k<i+t
        ·rw[if_pos h,if_pos (by omega)]
        ·rw[if_neg h,if_neg (by omega)])]
       exact ih2 (t+1) (by omega) (by omega)
    have:=inner _ 0 rfl (by omega)
    rwa[tabL_congr (g:=coef rest) (fun k hk=>by rw[if_neg (by omega)];grind)] at this
   by_cases hrl:rest.length≤i+q.length-1
   ·
    have hc00:c=0:=by rw[hc0,coef_ge (p:=rest) (by omega),Rat.div_def,Rat.zero_mul]
    refine main out rest (fun k => ?_) (fun k _ => ?_) (ih n hc out rest hn (by omega) (by omega) hc1 hr (by omega) zo zr lo ho (fun k hk=>hout k (by omega)))
    ·by_cases hk:k=i
     ·rw[if_pos hk,hc00,hk,hout i (by omega)]
     ·rw[if_neg hk]
    ·rw[hc00]
     split<;>grind
   ·have hle:q.length≤rest.length:=by omega
    have hri2:rest.length-q.length=i:=by omega
    obtain⟨n',rfl⟩:∃n',n=n'+1:=⟨n-1,by omega⟩
    have hdv:divF (n'+1) out rest q=divF n' (trimL (addL out (shiftL i [stepC rest q]))) (stepR rest q) q:=by
     rw[divF,show Nat.blt rest.length q.length=false from blt_fal.2 hle,cond_false,hri2]
    have hsc:stepC rest q=c:=by
     unfold stepC topL
     rw[hc0,show rest.length-1=i+q.length-1 by omega]
     rfl
    have hsl:=stepR_len htop (by omega) hle
    have cc:∀k,coef (trimL (addL out (shiftL i [stepC rest q]))) k=if k=i then c else coef out k:=by
     intro k
     rw[coef_trimL,coef_addL,coef_shiftL,hsc]
     by_cases h3:k=i
     ·rw[if_pos h3,if_neg (by omega),hout k (by omega),h3,Nat.sub_self,coef_zero,Rat.zero_add]
     ·rw[if_neg h3]
      split
      ·rw[Rat.add_zero]
      ·rw[coef_ge (p:=[c]) (by simp;omega),Rat.add_zero]
    have cr:∀k,k<p.length→coef (stepR rest q) k=coef rest k-if i≤k∧k<i+q.length then c*coef q (k-i) else 0:=by
     intro k _
     unfold stepR
     rw[coef_trimL,coef_addL,coef_shiftL,coef_smulL,hri2,hsc]
     by_cases h3:k<i
     ·rw[if_pos h3,if_neg (by omega)];grind
     ·rw[if_neg h3]
      by_cases h4:k<i+q.length
      ·rw[if_pos (by omega)];grind
      ·rw[if_neg (by omega),coef_ge (p:=q) (by omega)];grind
    have next:=ih n' (hc+b+1) (trimL (addL out (shiftL i [stepC rest q]))) (stepR rest q) (by omega) (by omega) (by omega) (by omega) (hr.step hq htop) (by omega) (lastZ_trimL _) (lastZ_trimL _) (len_trim_le (fun k hk=>by
     rw[←coef_trimL,cc,if_neg (by omega),coef_ge (by omega)])) (fun k=>by
     rw[cc]
     split
     ·omega
     ·exact ho k) (fun k hk=>by rw[cc,if_neg (by omega)];exact hout k (by omega))
    rw[hdv] at main ⊢
    exact main _ _ cc cr next
 have:=loop (p.length+1-q.length) (p.length+1) h [] p (by omega) (by omega) (Nat.le_refl _) h1 hp (by omega) rfl zp (by simp) (fun i=>by rw[coef_nil,ht_zero];omega) (fun i _=>rfl)
 refine linkworkref08_quotient.e1 _ _ (p.length+1-q.length) (by rw[lenM,lenM];omega) (by rw[List.nil_append,lenM];omega) (by rw[lenM,lenM];unfold InI64;omega) (by rw[lenM,lenM];unfold InI64;omega) (by rw[lenM,lenM];omega) (by omega) (by unfold InI64;omega) ?_
 rw[tabL_zero]
 have e3:tabL p.length (coef p)=p:=by
  refine List.ext_getElem? (fun i => ?_)
  by_cases hi:i<p.length
  ·rw[tabL_get _ hi,coef_get hi]
  ·rw[List.getElem?_eq_none (by rw[tabL_len];omega),List.getElem?_eq_none (by omega)]
 rw[e3] at this
 exact this
end CRsR
end Go.Proofs.YtboilcfohmmpbaaGreatDoor.Sym
namespace Go.Proofs.YtboilcfohmmpbaaGreatDoor.Sym
open Go Path CInt Dt Rs
set_option linter.unusedVariables false
namespace CRsR
theorem less_bz{A B C:Nat}(a x b:List Rat)(la:a.length≤10000)(lx:x.length≤6)(lb:b.length≤10000)(fa:Fl A a)(fx:Fl B x)(fb:Fl C b)(hA:1≤A)(hB:1≤B)(hC:1≤C)(hk:A+8*(B+C+1)+10≤68719476736) :
  Contract prg 86 [pq a,pq x,pq b] (pq (trimL (addL a (smulL (-1) (trimL (mulL x b)))))):=by
 have:=less 6 a x b (addL a (smulL (-1) (trimL (mulL x b)))) (fun i=>by rw[coef_addL,coef_smulL,coef_trimL];grind) la (by omega) lb fa fx fb hA hB hC (Or.inl lx) (by omega)
 exact this
theorem bz_loop{P Q G:List ARat}{r:PV} : ∀(n:Nat) (i j:Nat) (a b x y:List Rat) (C l:Nat),b.length<n→Euc 7 63 6 i j a b→a.length≤6→BzI n a b x y C l →
  (∀y',linkworkref08_Bezout.Loop1 P Q G ((bzF n a b x y).1.map mkR) [] ((bzF n a b x y).2.map mkR) y' r)→linkworkref08_Bezout.Loop1 P Q G (a.map mkR) (b.map mkR) (x.map mkR) (y.map mkR) r
 |0,i,j,a,b,x,y,C,l,h,_,_,_,_=>by omega
 |n+1,i,j,a,b,x,y,C,l,h,e,la,I,hend=>by
  have hx8:∀k,k≤8→xB 7 63 k≤xB 7 63 8:=fun k hk=>xB_le 7 63 (by omega) hk
  have hidx:=e.idx
  have hlt:=e.lt
  have hlen:=e.len
  unfold bzF at hend
  by_cases hb:b.length=0
  ·have hb0:b=[]:=List.eq_nil_of_length_eq_zero hb
   subst hb0
   exact hend _
  ·rw[if_neg hb] at hend
   have hb0:b≠[]:=fun e2=>hb (by rw[e2];rfl)
   obtain⟨r1,r2⟩:=e.rest (by omega) hb0
   have hbd:=e.bound
   have hK:=hx8 (max i j) (by omega)
   have ki:xB 7 63 i≤xB 7 63 (max i j):=xB_le 7 63 (by omega) (by omega)
   have kj:xB 7 63 j≤xB 7 63 (max i j):=xB_le 7 63 (by omega) (by omega)
   obtain⟨I2,s1,s2,s3,s4,s5,s6⟩:=bz_step I e.zp e.zq hb0 hK (xB_pos (by omega) (by omega) _) (e.hp.mono ki) (e.hq.mono kj) la (by omega)
   have hd:=(CPr.next (a:=7) (b:=63) (N:=6) (by omega) (by omega) (by omega) (by decide) e hb0).1
   have hX:xB 7 63 8≤30000:=by decide
   have hly:=I.ly
   have hlx:=I.lx
   refine linkworkref08_Bezout.l10 _ _ _ _ _ _ _ _ _ _ _ (by rw[lenM];omega) hd (less_bz x (divL a b).1 y (by omega) s1 (by omega) (I.cx.fl I.c1) s2 (I.cy.fl I.c1) I.c1 (by omega) I.c1 (by omega)) ?_
   exact bz_loop n _ _ b (restL a b) y _ _ _ (by omega) (e.next (by omega) hb0 r1 r2 (restL_trim a b)) (by omega) I2 hend
theorem BezoutQ{p q:List Rat}(h:Bz p q)(hq0:q≠[]):Contract prg 37 [pq p,pq q] (.tup [pq (bzu p q),pq (bzv p q),pq (gcdL p q),vI 0]):=by
 have hlp:=h.lp
 have hlq:=h.lq
 have hql:=List.length_pos_iff.2 hq0
 have R:=h.res hq0
 have hgl:=List.length_pos_iff.2 R.g0
 have hml:=List.length_pos_iff.2 R.m0
 have lm:=R.lm
 have lu:=R.lu
 have lU:=R.lU
 obtain⟨f1,f2,f3,f4,f5⟩:=h.fin hq0
 obtain⟨a1,a2, -, -, -⟩:=bzF_dv (q.length+2) p q [1] [] h.zp h.zq (by omega) (Or.inr hq0)
 have hc:=bothQ h.zp h.zq (by omega) (by omega) (fl_mono h.fp (by omega)) (fl_mono h.fq (by omega))
 have hg:=RQ.Gcd (h:=7) (b:=7) (c:=63) (L:=6) (by omega) (by omega) (by omega) (by omega) (by omega) (by decide) p q h.zp h.zq hlp hlq h.cp h.cq
 have hd1:=RQ.Div q (gcdL p q) h.zq R.zg R.g0 (by omega) (by have:=R.lg;omega) h.cq R.cg (by omega) (by omega) (by
  have:(q.length+1-(gcdL p q).length)*(30000+1)≤6*(30000+1):=Nat.mul_le_mul_right _ (by omega)
  omega)
 have hd2:=RQ.Div (bzU p q) (bzM p q) R.zU R.zm R.m0 (by omega) (by omega) R.cU R.cm (by omega) (by omega) (by
  have:((bzU p q).length+1-(bzM p q).length)*(1260079+1)≤50*(1260079+1):=Nat.mul_le_mul_right _ (by omega)
  omega)
 have hl:Contract prg 86 [pq (gcdL p q),pq (bzu p q),pq p] (pq (trimL (bzD p q))):=less 6 (gcdL p q) (bzu p q) p (bzD p q) (fun i=>by unfold bzD;rw[lessL_coef,timL_coef]) (by have:=R.lg;omega) (by omega) (by omega) (R.cg.fl (by omega)) (R.cu.fl (by omega)) h.fp (by omega) (by omega) (by omega) (Or.inl (by omega)) (by omega)
 have ltd:(trimL (bzD p q)).length≤11:=Nat.le_trans (len_trimL _) R.ld
 have hv:Contract prg 88 [pq (trimL (bzD p q)),pq q] (pq (bzv p q)):=quotient (trimL (bzD p q)) q (lastZ_trimL _) h.zq hq0 R.cd.trim h.cq (by omega) (by omega) (by omega) (by omega) (by
  have:((trimL (bzD p q)).length+1-q.length)*(7+1)≤11*(7+1):=Nat.mul_le_mul_right _ (by omega)
  omega)
 have hta:=ht_top f4 (by omega)
 have hd:=ht_div 1 (topL (bzA p q).1)
 have h11:Sym.ht 1=1:=by decide
 have hal:=List.length_pos_iff.2 a2
 change 0<(bzA p q).1.length at hal
 have hsc:Contract prg 87 [pq (bzA p q).2,(mkR (1/topL (bzA p q).1)).pv] (.tup [pq (bzU p q),vI 0]):=RQ.Scale (bzA p q).2 (1/topL (bzA p q).1) f1 (by omega) (f2.fl (by omega)) (d:=30001) (by omega) (by omega) (by omega)
 have hend:∀y',linkworkref08_Bezout.Loop1 (p.map mkR) (q.map mkR) ((gcdL p q).map mkR) ((bzA p q).1.map mkR) [] ((bzA p q).2.map mkR) y' (.tup [pq (bzu p q),pq (bzv p q),pq (gcdL p q),vI 0]):=fun y' =>
  linkworkref08_Bezout.l11 _ _ _ _ [] _ y' (mkR 1) ((bzA p q).1.length-1) (mkR (topL (bzA p q).1)) (mkR (1/topL (bzA p q).1)) _ _ _ _ _ _ _ _ _ _ _ (Nat.le_refl _) (CRb.Of 1 ⟨by decide,by decide⟩) (by rw[lenM];unfold InI64;omega) (by rw[lenM];omega) (getM (getTop a2)) (QR.Div 1 (topL (bzA p q).1) (by omega) (by omega) (top_ne a1 a2)) hsc hd1 hd2 hl hv
 have I:=h.start
 have main:linkworkref08_Bezout.Loop1 (p.map mkR) (q.map mkR) ((gcdL p q).map mkR) (p.map mkR) (q.map mkR) [mkR 1] [] (.tup [pq (bzu p q),pq (bzv p q),pq (gcdL p q),vI 0]):=by
  obtain⟨I2,s1,s2,s3,s4,s5,s6⟩:=bz_step I h.zp h.zq hq0 (K:=7) (by decide) (by omega) h.cp h.cq hlp hlq
  have hd:=RQ.Div p q h.zp h.zq hq0 (by omega) (by omega) h.cp h.cq (by omega) (by omega) (by
   have:(p.length+1-q.length)*(7+1)≤6*(7+1):=Nat.mul_le_mul_right _ (by omega)
   omega)
  have s2:Fl 300000 (divL p q).1:=fl_mono s2 (by decide)
  have hls:=less_bz (A:=1) (C:=1) [1] (divL p q).1 [] (by simp) s1 (by simp) (fun x hx=>by simp at hx;subst hx;decide) s2 (fun x hx=>by cases hx) (by omega) (by omega) (by omega) (by omega)
  refine linkworkref08_Bezout.l10 (p.map mkR) (q.map mkR) _ (p.map mkR) (q.map mkR) [mkR 1] [] _ _ _ _ (by rw[lenM];omega) hd hls ?_
  have eA:bzA p q=bzF (q.length+1) q (restL p q) [] (trimL (addL [1] (smulL (-1) (trimL (mulL (divL p q).1 []))))):=by unfold bzA;rw[bzF,if_neg (by omega)]
  rw[eA] at hend
  have hr:Ch 63 (restL p q):=(h.cp.rest h.cq h.zq hq0).mono (by
   have:(p.length+1-q.length)*(7+1)≤6*(7+1):=Nat.mul_le_mul_right _ (by omega)
   omega)
  have hrl:(restL p q).length<q.length:=(divL_spec p h.zq hq0).1
  exact bz_loop (q.length+1) 0 1 q (restL p q) [] _ _ _ (by omega) ⟨h.cq,hr,by omega,hrl,by omega,h.zq,restL_trim p q⟩ hlq I2 hend
 by_cases h0:p.length=0
 ·exact linkworkref08_Bezout.e2 _ _ _ _ _ (mkR 1) hc rfl (by rw[lenM];exact h0) (by rw[lenM];omega) hg (CRb.Of 1 ⟨by decide,by decide⟩) main
 ·exact linkworkref08_Bezout.e4 _ _ _ _ _ (mkR 1) hc rfl (by rw[lenM];exact h0) hg (by rw[lenM];omega) (CRb.Of 1 ⟨by decide,by decide⟩) main
theorem BezoutP{p:List Rat}(zp:lastZ p=false)(hp0:p≠[])(lp:p.length≤6)(fp:Fl 1 p):Contract prg 37 [pq p,pq []] (.tup [pq [1/topL p],pq [],pq (monicL p),vI 0]):=by
 have hpl:=List.length_pos_iff.2 hp0
 have hc:=bothQ (q:=[]) zp rfl (by omega) (by simp) (fl_mono fp (by omega)) (fun x hx=>by cases hx)
 have cp:Ch 7 p:=(Ch.of_fl fp).mono (by omega)
 have hta:=ht_top cp (by omega)
 have hg:=RQ.Gcd (h:=7) (b:=7) (c:=63) (L:=6) (by omega) (by omega) (by omega) (by omega) (by omega) (by decide) p [] zp rfl lp (by simp) cp (Ch.nil (by omega))
 rw[show gcdL p []=monicL p from rfl] at hg
 have h11:Sym.ht 1=1:=by decide
 exact linkworkref08_Bezout.e3 (p.map mkR) [] _ _ _ (mkR 1) (p.length-1) (mkR (topL p)) (mkR (1/topL p)) _ hc rfl (by rw[lenM];omega) hg rfl (CRb.Of 1 ⟨by decide,by decide⟩) (by rw[lenM];unfold InI64;omega) (by rw[lenM];omega) (getM (getTop hp0)) (QR.Div 1 (topL p) (by omega) (by omega) (top_ne zp hp0))
theorem Bezout00:Contract prg 37 [pq [],pq []] (.tup [pq [],pq [],pq [],vI 8]) :=
 linkworkref08_Bezout.e1 [] [] _ (bothQ (p:=[]) (q:=[]) rfl rfl (by simp) (by simp) (fun x hx=>by cases hx) (fun x hx=>by cases hx)) rfl rfl rfl
theorem BezoutE{p q:List ARat}(hf:FitP 274877906944 p)(hg:FitP 274877906944 q)(h:chkL [p,q]≠0):Contract prg 37 [polyPV p,polyPV q] (.tup [pq [],pq [],pq [],vI (chkL [p,q])]) :=
 linkworkref08_Bezout.e0 p q _ (CRs.both [p,q] (by simp) (fun l hl=>by
  simp at hl
  rcases hl with rfl|rfl
  ·exact hf
  ·exact hg)) h
theorem same05(a b:List Rat)(ha:Fl 68719476736 a)(hl:a.length≤1000):Contract prg 39 [pq a,pq b] (vB (decide (a=b))):=by
 have:=CBa.Rats (a.map mkR) (b.map mkR) (by rw[lenM];omega) (fun x hx=>by
  obtain⟨y,hy,rfl⟩:=List.mem_map.1 hx
  have:=fit_mkRk (ha y hy)
  omega)
 have e:eqRs (a.map mkR) (b.map mkR)=decide (a=b):=by
  by_cases h:a=b
  ·rw[decide_eq_true h,h,eqRs_self]
  ·rw[decide_eq_false h]
   refine eqRs_ne (fun e=>h ?_)
   rw[←vals_mkR a,←vals_mkR b,e]
 rw[e] at this
 exact linkworkref05_Same.e0 _ _ _ this
theorem AcceptsQ{p q u v g:List Rat}(h:AcOk p q u v g):Contract prg 38 [pq p,pq q,pq u,pq v,pq g] (.tup [vB (accB p q u v g),vI 0]):=by
 have lp:=h.lp;have lq:=h.lq;have lu:=h.lu;have lv:=h.lv;have lg:=h.lg
 have hc:=both0 (l:=[p.map mkR,q.map mkR,u.map mkR,v.map mkR,g.map mkR]) (by simp) h.fit h.chk
 have m1:=RQ.Mul (a:=1140030200) (b:=1) 6 u p h.zu h.zp (by omega) (by omega) h.fu h.fp (by omega) (by omega) (Or.inr lp) (by omega) (by omega)
 have m2:=RQ.Mul (a:=1140030200) (b:=1) 6 v q h.zv h.zq (by omega) (by omega) h.fv h.fq (by omega) (by omega) (Or.inr lq) (by omega) (by omega)
 have f1:=fl_mul6 lp h.fu h.fp
 have f2:=fl_mul6 lq h.fv h.fq
 have l1:=len_mul8 lu lp
 have l2:=len_mul8 lv lq
 have m3:=RQ.Add (a:=6840181213) (b:=6840181213) (trimL (mulL u p)) (trimL (mulL v q)) (lastZ_trimL _) (lastZ_trimL _) (by omega) (by omega) f1 f2 (by omega) (by omega) (by omega)
 have f3:=fl_acc lp lq h.fu h.fv h.fp h.fq
 have l3:(trimL (addL (trimL (mulL u p)) (trimL (mulL v q)))).length≤18:=by
  have h1:=len_trimL (addL (trimL (mulL u p)) (trimL (mulL v q)))
  rw[len_addL] at h1
  omega
 unfold accB accT
 generalize trimL (addL (trimL (mulL u p)) (trimL (mulL v q)))=S at *
 by_cases g0:g=[]
 ·rw[decide_eq_false (fun h=>h.1 g0)]
  exact linkworkref08_Accepts.e3 _ _ _ _ (g.map mkR) _ _ _ _ _ _ _ hc rfl m1 rfl m2 rfl m3 (by rw[g0];rfl)
 ·have hgl:=List.length_pos_iff.2 g0
  have hta:=ht_top h.cg (by omega)
  have h11:Sym.ht 1=1:=by decide
  have hcm:=QR.Cmp (topL g) 1 (by omega) (by omega)
  by_cases t1:topL g=1
  ·have hs:=same05 S g (fl_mono f3 (by omega)) (by omega)
   by_cases s1:S=g
   ·rw[decide_eq_true s1] at hs
    have d1:=RQ.Div p g h.zp h.zg g0 (by omega) (by omega) ((Ch.of_fl h.fp).mono (by omega)) h.cg (by omega) (by omega) (h.div lp)
    have d2:=RQ.Div q g h.zq h.zg g0 (by omega) (by omega) ((Ch.of_fl h.fq).mono (by omega)) h.cg (by omega) (by omega) (h.div lq)
    have r1:(restL p g).length<g.length:=(divL_spec p h.zg g0).1
    have r2:(restL q g).length<g.length:=(divL_spec q h.zg g0).1
    have:=linkworkref08_Accepts.e6 _ _ _ _ (g.map mkR) _ _ _ _ _ _ _ (g.length-1) (mkR (topL g)) (mkR 1) _ _ _ _ _ _ _ _ hc rfl m1 rfl m2 rfl m3 (by rw[lenM];omega) (by rw[lenM];unfold InI64;omega) (by rw[lenM];omega) (getM (getTop g0)) (CRb.Of 1 ⟨by decide,by decide⟩) hcm (cmpR_eq.2 t1) hs rfl d1 d2 (by rw[lenM,lenM];change (restL p g).length+(restL q g).length<_;omega)
    rw[lenM,lenM] at this
    have e:((((divL p g).2.length+(divL q g).2.length:Nat):Int)==0)=decide (g≠[]∧topL g=1∧S=g∧restL p g=[]∧restL q g=[]):=by
     change ((((restL p g).length+(restL q g).length:Nat):Int)==0)=_
     by_cases k1:restL p g=[]
     ·by_cases k2:restL q g=[]
      ·rw[decide_eq_true ⟨g0,t1,s1,k1,k2⟩,k1,k2];rfl
      ·have:=List.length_pos_iff.2 k2
       rw[decide_eq_false (fun h=>k2 h.2.2.2.2)]
       exact beq_eq_false_iff_ne.2 (by omega)
     ·have:=List.length_pos_iff.2 k1
      rw[decide_eq_false (fun h=>k1 h.2.2.2.1)]
      exact beq_eq_false_iff_ne.2 (by omega)
    rw[e] at this
    exact this
   ·rw[decide_eq_false s1] at hs
    rw[decide_eq_false (fun h=>s1 h.2.2.1)]
    exact linkworkref08_Accepts.e5 _ _ _ _ (g.map mkR) _ _ _ _ _ _ _ (g.length-1) (mkR (topL g)) (mkR 1) _ _ hc rfl m1 rfl m2 rfl m3 (by rw[lenM];omega) (by rw[lenM];unfold InI64;omega) (by rw[lenM];omega) (getM (getTop g0)) (CRb.Of 1 ⟨by decide,by decide⟩) hcm (cmpR_eq.2 t1) hs rfl
  ·rw[decide_eq_false (fun h=>t1 h.2.1)]
   exact linkworkref08_Accepts.e4 _ _ _ _ (g.map mkR) _ _ _ _ _ _ _ (g.length-1) (mkR (topL g)) (mkR 1) _ hc rfl m1 rfl m2 rfl m3 (by rw[lenM];omega) (by rw[lenM];unfold InI64;omega) (by rw[lenM];omega) (getM (getTop g0)) (CRb.Of 1 ⟨by decide,by decide⟩) hcm (fun e=>t1 (cmpR_eq.1 e))
end CRsR
namespace C08
theorem chkL_zero{l:List (List ARat)}(h:chkL l=0):∀p∈l,chk p=0:=by
 induction l with
 |nil=>intro p hp;cases hp
 |cons q l ih =>
  unfold chkL at h
  by_cases h0:chk q=0
  ·rw[if_pos h0] at h
   intro p hp
   rcases List.mem_cons.1 hp with rfl|hp
   ·exact h0
   ·exact ih h p hp
  ·rw[if_neg h0] at h;exact absurd h h0
theorem ResultantBezout(p q:List ARat)(c:ACofactors){A B C:Prop}(_:A)(_:B)(_:C):Contract prg 8 [polyPV p,polyPV q,c.pv] (vB true):=by
 obtain⟨b1,h1,g1⟩:=short [p,q,c.u,c.v,c.g] (by simp)
 cases b1 with
 |false=>exact linkworklaw08_ResultantBezout.e0 p q c _ _ h1 rfl awake
 |true =>
  have hp:=g1 rfl p (by simp)
  have hq:=g1 rfl q (by simp)
  have ku:=g1 rfl c.u (by simp)
  have kv:=g1 rfl c.v (by simp)
  have kg:=g1 rfl c.g (by simp)
  have hfp:=hp.fit (k:=274877906944) (by omega)
  have hfq:=hq.fit (k:=274877906944) (by omega)
  have nl:Fl 68719476736 []:=fun x hx=>by cases hx
  have key1:∃(u v g:List Rat) (E:Option Int) (n:Int),Contract prg 35 [polyPV p,polyPV q] (.tup [pq u,pq v,pq g,errPV E])∧Contract prg 37 [polyPV p,polyPV q] (.tup [pq u,pq v,pq g,vI n])∧Contract prg 18 [errPV E] (vI n)∧(u.length≤1000∧Fl 68719476736 u)∧(v.length≤1000∧Fl 68719476736 v)∧(g.length≤1000∧Fl 68719476736 g):=by
   by_cases he:chkL [p,q]=0
   ·have s:=hp.s8 (chkL_zero he p (by simp))
    have t:=hq.s8 (chkL_zero he q (by simp))
    have ls:=s.len
    by_cases hq0:vals q=[]
    ·have eq:polyPV q=pq []:=by rw[←t.pv,hq0]
     rw[eq,←s.pv]
     by_cases hp0:vals p=[]
     ·rw[hp0]
      exact⟨[],[],[],some 8,8,CRsP.Bezout00,CRsR.Bezout00,CBa.Num (some 8),⟨by simp,nl⟩,⟨by simp,nl⟩,⟨by simp,nl⟩⟩
     ·have hta:=ht_top s.ch (by omega)
      have hd:=ht_div 1 (topL (vals p))
      have h11:ht 1=1:=by decide
      exact⟨_,_,_,none,0,CRsP.BezoutP s.zp hp0 s.len s.fl,CRsR.BezoutP s.zp hp0 s.len s.fl,CBa.Num none,⟨by simp,fun x hx=>by simp at hx;subst hx;omega⟩,⟨by simp,nl⟩,by rw[monicL_len s.zp];omega,fl_mono ((s.ch.monic (by omega) s.zp).fl (by omega)) (by omega)⟩
    ·have R:=(s.bz t).res hq0
     have c1:=CRsP.BezoutQ (s.bz t) hq0
     have c2:=CRsR.BezoutQ (s.bz t) hq0
     rw[s.pv,t.pv] at c1 c2
     exact⟨_,_,_,none,0,c1,c2,CBa.Num none,⟨by have:=R.lu;omega,fl_mono (R.cu.fl (by omega)) (by omega)⟩,⟨by have:=R.lv;omega,fl_mono R.fv (by omega)⟩,by have:=R.lg;omega,fl_mono (R.cg.fl (by omega)) (by omega)⟩
   ·exact⟨[],[],[],some _,_,CRsP.BezoutE hfp hfq he,CRsR.BezoutE hfp hfq he,CBa.Num (some _),⟨by simp,nl⟩,⟨by simp,nl⟩,⟨by simp,nl⟩⟩
  have key2:∃(b:Bool) (E:Option Int) (n:Int),Contract prg 36 [polyPV p,polyPV q,polyPV c.u,polyPV c.v,polyPV c.g] (.tup [vB b,errPV E])∧Contract prg 38 [polyPV p,polyPV q,polyPV c.u,polyPV c.v,polyPV c.g] (.tup [vB b,vI n])∧Contract prg 18 [errPV E] (vI n):=by
   have hfit:∀x∈[p,q,c.u,c.v,c.g],FitP 274877906944 x:=fun x hx=>(g1 rfl x hx).fit (by omega)
   by_cases he:chkL [p,q,c.u,c.v,c.g]=0
   ·have s:=hp.s8 (chkL_zero he p (by simp))
    have t:=hq.s8 (chkL_zero he q (by simp))
    have su:=ku.s8 (chkL_zero he c.u (by simp))
    have sv:=kv.s8 (chkL_zero he c.v (by simp))
    have sg:=kg.s8 (chkL_zero he c.g (by simp))
    have AC:=S8.ac s t su sv sg
    have a1:=CRsP.AcceptsQ AC
    have a2:=CRsR.AcceptsQ AC
    rw[s.pv,t.pv,su.pv,sv.pv,sg.pv] at a1 a2
    exact⟨_,none,0,a1,a2,CBa.Num none⟩
   ·have hc:=CRs.checks [p,q,c.u,c.v,c.g] (by simp) hfit
    rw[errOf_ne he] at hc
    exact⟨false,some _,_,resultant_Accepts.e7 _ _ _ _ _ _ hc,linkworkref08_Accepts.e0 _ _ _ _ _ _ (CRs.both [p,q,c.u,c.v,c.g] (by simp) hfit) he,CBa.Num (some _)⟩
  obtain⟨u,v,g,E,n,k1,k2,k3,⟨k4,k5⟩,⟨k6,k7⟩,k8,k9⟩:=key1
  obtain⟨b,F,m,d1,d2,d3⟩:=key2
  have:=linkworklaw08_ResultantBezout.e2 p q c _ _ _ _ _ E b F _ _ _ n b m _ _ _ _ _ h1 rfl awake rfl k1 d1 k2 d2 k3 rfl (same u k4 k5) rfl (same v k6 k7) rfl (same g k8 k9) rfl d3 rfl
  rw[show (b==b)=true from beq_self_eq_true b] at this
  exact this
end C08
end Go.Proofs.YtboilcfohmmpbaaGreatDoor.Sym
namespace Go.Proofs.YtboilcfohmmpbaaGreatDoor.Sym
open Go Go.RowKit Go.ChangeShapes Go.WideShapes Go.ChangeAt
set_option linter.unusedVariables false
namespace RowResultantBezout
theorem own:ownKnob Tryz.prog.godebug=none:=by kernel_rfl
theorem laid:laidOutB prg=true:=by kernel_rfl
theorem okArg{P:Program}{W:World}{base:Nat}{ps:Array TypeId}{args:Array Value}(hval:∀(j:Nat) t v,ps[j]? = some t→args[j]? = some v→Value.okWide P W .any base t v)(j:Nat){t:TypeId}{v:Value}(h1:ps[j]? = some t)(h2:args[j]? = some v):Value.okWide P W .any base t v:=hval j t v h1 h2
set_option maxRecDepth 100000 in
theorem contract(H:Type)(enc:TypeId×Value→H)(W:World)(base:Nat)(args:Array Value)(ds gs:List (DataW H))(before:List MemPlace)
  (hval:∀(j:Nat) t v,Tryz.f8.params[j]? = some t→args[j]? = some v→Value.okWide Tryz.prog W .any base t v)
  (hW:DataW.Whole enc Tryz.prog Tryz.f8.params.toList Rows.resultantBezoutSpec.vars false W args.toList ds gs before)
  (hz:(DataW.weightsEach Tryz.prog (Tryz.f8.params.toList++Rows.resultantBezoutSpec.plain.varTypes Tryz.prog) (ds++gs)).all (·≤reachBytes)=true) :
  Calls Tryz.prog 8 args W fun e W'=>∃v,e = .returned v∧Rows.resultantBezoutSpec.post enc Tryz.prog Tryz.f8 false true false false W args v W':=by
 have hW':=hW
 obtain⟨p,q,hA,hV,rfl,hfz,hnd⟩:=hW
 have hp:Tryz.f8.params = #[23,23,64]:=by kernel_rfl
 rw[hp] at hA hval hz
 obtain⟨v0,vs0,d0,ds0,p0,q0,hargs,rfl,rfl,h0,r0⟩:=trodAll_cons hA
 obtain⟨v1,vs1,d1,ds1,p1,q1,rfl,rfl,rfl,h1,r1⟩:=trodAll_cons r0
 obtain⟨v2,vs2,d2,ds2,p2,q2,rfl,rfl,rfl,h2,r2⟩:=trodAll_cons r1
 obtain⟨rfl,rfl,rfl⟩:=trodAll_nil r2
 obtain rfl:args = #[v0,v1,v2]:=by cases args;simp_all
 obtain⟨rfl,rfl⟩:=trodVars_none hV
 obtain⟨n0,hn0⟩:=h0
 have hw0:∀k∈d0.weights prg 23,k≤reachBytes:=by
  intro k hk
  have:=List.all_eq_true.1 hz k (DataW.weights_mem_each (j:=0) rfl rfl k hk)
  simpa using this
 obtain⟨x0,hx0,b0⟩:=opens_poly enc W 0 (fun _=>true) true n0 _ _ hn0 hw0
 obtain⟨ra0,rl0,rc0,rfl⟩:=okWide_slice (show Tryz.prog.underlying 23=some (.slice 33) by kernel_rfl) (okArg hval 0 (t:=23) (v:=v0) (by simp) (by simp))
 have hrd0:Rd (Old W) W (polyPV x0) (.slice ra0 rl0 rc0):=(hx0.2 0 _ _ rfl rfl).2
 obtain⟨n1,hn1⟩:=h1
 have hw1:∀k∈d1.weights prg 23,k≤reachBytes:=by
  intro k hk
  have:=List.all_eq_true.1 hz k (DataW.weights_mem_each (j:=1) rfl rfl k hk)
  simpa using this
 obtain⟨x1,hx1,b1⟩:=opens_poly enc W 0 (fun _=>true) true n1 _ _ hn1 hw1
 obtain⟨ra1,rl1,rc1,rfl⟩:=okWide_slice (show Tryz.prog.underlying 23=some (.slice 33) by kernel_rfl) (okArg hval 1 (t:=23) (v:=v1) (by simp) (by simp))
 have hrd1:Rd (Old W) W (polyPV x1) (.slice ra1 rl1 rc1):=(hx1.2 0 _ _ rfl rfl).2
 obtain⟨n2,hn2⟩:=h2
 have hw2:∀k∈d2.weights prg 64,k≤reachBytes:=by
  intro k hk
  have:=List.all_eq_true.1 hz k (DataW.weights_mem_each (j:=2) rfl rfl k hk)
  simpa using this
 obtain⟨x2,hx2,b2⟩:=opens_ACofactors enc W 0 (fun _=>true) true n2 _ _ hn2 hw2
 obtain⟨fs2,hu2,_⟩:=flds_spec (show fldsOf (prg.underlying 64)=some [(23,0),(23,1),(23,2)] by kernel_rfl)
 have hv2:Value.okWide Tryz.prog W .any base 64 v2:=okArg hval 2 (by simp) (by simp)
 have hrd2:Rd (Old W) W x2.pv v2:=rd_struct (P:=Tryz.prog) (cs:=x2.cells) hu2 hv2 hx2
 have hc:=C08.ResultantBezout x0 x1 x2 b0 b1 b2
 refine(hc.2 (Old W) W (fun _=>none) #[.slice ra0 rl0 rc0,.slice ra1 rl1 rc1,v2] (fun b hb=>hb) (stoOk_nil _ _ _) rfl ?_).mono ?_
 ·intro j e v he hv
  cases j with
  |zero=>simp at he hv;subst he hv;exact hrd0
  |succ j =>
   cases j with
   |zero=>simp at he hv;subst he hv;exact hrd1
   |succ j =>
    cases j with
    |zero=>simp at he hv;subst he hv;exact hrd2
    |succ j=>simp at he
 ·intro e W' ⟨v,β',he,_,hk,_,hv,_⟩
  subst he
  have hv:Rd _ W' (vB true) v:=hv
  cases hv
  have hk':Keeps (fun _=>False) W W':=⟨hk.os,hk.tape,hk.output,hk.size,fun k h1 _=>hk.block k h1 (fun ⟨y,hy,_⟩=>absurd hy dom_nil),hk.shape,hk.drawn⟩
  refine⟨_,rfl,post_true (tb:=4) hW' hk' rfl (by kernel_rfl) (by kernel_rfl) rfl rfl rfl laid ?_⟩
  rw[hp]
  intro t ht
  have:t=23∨t=23∨t=64:=by simpa using ht
  rcases this with rfl|rfl|rfl
  all_goals exact⟨by kernel_rfl,of_decide_eq_true (by kernel_rfl)⟩
def tabCells:DataW Unit→Array Value
 |.agg l=>(l.map fun d=>match d with
  |.lit (.int k n)=>Value.int k n
  |_=>Value.nilIface).toArray
 |_ => #[]
def setTab(b:Nat)(d:DataW Unit)(h:Array Obj):Array Obj:=h.modify b fun
 |.cells _ t fr => .cells (tabCells d) t fr
 |o=>o
noncomputable def laidWorld(os:Os):World :=
 { World.holding Tryz.prog os ⟨#[],#[],[]⟩ with heap:=setTab 0 Rows.laid_internal_strconv_uint64pow10 (setTab 2 Rows.laid_math_bits_deBruijn32tab (setTab 3 Rows.laid_math_bits_deBruijn64tab (World.holding Tryz.prog os ⟨#[],#[],[]⟩).heap)) }
theorem laid_met(os:Os):laidMet Tryz.prog Rows.resultantBezoutRow.laid ((laidWorld os).forCall (fun _ _=>0) ⟨#[],#[.slice none 0 0,.slice none 0 0,.agg #[.slice none 0 0,.slice none 0 0,.slice none 0 0]],[]⟩).memory :=
 laidMet_of_run' 8 (by kernel_rfl) (by kernel_rfl)
theorem reads(os:Os){H:Type}(enc:TypeId×Value→H):(DataW.whole enc Tryz.prog ((laidWorld os).forCall (fun _ _=>0) ⟨#[],#[.slice none 0 0,.slice none 0 0,.agg #[.slice none 0 0,.slice none 0 0,.slice none 0 0]],[]⟩).memory Tryz.f8.params.toList Rows.resultantBezoutSpec.vars false (#[.slice none 0 0,.slice none 0 0,.agg #[.slice none 0 0,.slice none 0 0,.slice none 0 0]]:Array Value).toList 8).isSome=true:=by kernel_rfl
set_option maxRecDepth 100000 in
theorem lifted(os:Os)(started:os.Started)(H:Type)(enc:TypeId×Value→H)(F:Stop.Interp) :
  ReturnsInHanded {} Tryz.checked os 8 .any ((OpenSpec.ofChange Rows.resultantBezoutSpec).preRow enc Tryz.prog Tryz.f8 Rows.resultantBezoutRow.domain false Rows.resultantBezoutRow.laid) (((OpenSpec.ofChange Rows.resultantBezoutSpec).at F).post enc Tryz.prog Tryz.f8 false true false false):=by
 obtain⟨x,hx⟩:=Option.isSome_iff_exists.1 (reads os enc)
 refine returnsInHanded_of_row (C:=Tryz.checked) (s:=OpenSpec.ofChange Rows.resultantBezoutSpec) own started (by kernel_rfl) Tryz.func8
  (witness_row_at (enc:=enc) (C:=Tryz.checked) false (laidWorld os) #[.slice none 0 0,.slice none 0 0,.agg #[.slice none 0 0,.slice none 0 0,.slice none 0 0]] rfl (by kernel_rfl) (by kernel_rfl) (by kernel_rfl)
   (OpenSpec.preRow_of_cond 8 hx (by kernel_rfl) (fun k hk=>by cases hk) (by kernel_rfl) (laid_met os))) ?_
 intro W base args ds gs before hval hW _ _ hz hL _ _
 exact contract H enc W base args ds gs before hval hW hz
theorem j1:(Rows.resultantBezoutRow.inPlace==Tryz.prog.inPlace 8)=true:=by kernel_rfl
theorem j2:(Rows.resultantBezoutRow.unfollowed==Tryz.prog.unfollowed 8)=true:=by kernel_rfl
theorem j3:(Rows.resultantBezoutRow.recurses==Tryz.prog.recurses 8)=true:=by kernel_rfl
theorem j4:(Rows.resultantBezoutRow.named==Tryz.prog.varsNamed 8)=true:=by kernel_rfl
theorem closed:joinedFacts Tryz.prog 8 Tryz.f8 Rows.resultantBezoutSpec Rows.resultantBezoutRow=true:=by
 unfold joinedFacts
 rw[j1,j2,j3,j4]
 kernel_rfl
set_option maxRecDepth 100000 in
theorem said:Rows.ResultantBezoutSaid :=
 OpenClaim.holds_of_cond 8 Tryz.f8 rfl rfl rfl rfl rfl rfl rfl ⟨rfl,rfl,rfl,rfl,rfl⟩ rfl rfl rfl rfl rfl (by kernel_rfl) Tryz.func8 closed
  (of_decide_eq_true (by kernel_rfl)) (by unfold Func.isWrapper;first|(rw [if_pos (by decide +kernel)];kernel_rfl)|(rw [if_neg (by decide +kernel)];exact⟨rfl,rfl⟩))
  (fun os started H enc _ F=>by rw[OpenClaim.pre_eq_preRow];exact lifted os started H enc F)
theorem plainL(f:FuncId)(fn:Func)(hf:Tryz.pinned.checked.prog.funcNamed Rows.resultantBezoutRow.func=some f)(hfn:Tryz.pinned.checked.prog.funcs[f]? = some fn) :
  true=Tryz.pinned.checked.prog.looks []∧∀(j:Nat) t,fn.params[j]? = some t→Tryz.pinned.checked.prog.wantsStandIn t=false:=by
 obtain rfl:f=8:=Option.some.inj ((show Tryz.prog.funcNamed Rows.resultantBezoutRow.func=some 8 by kernel_rfl).symm.trans hf) |>.symm
 obtain rfl:fn=Tryz.f8:=(Option.some.inj (Tryz.func8.symm.trans hfn)).symm
 refine⟨by kernel_rfl,fun j t ht => ?_⟩
 have hp:Tryz.f8.params = #[23,23,64]:=by kernel_rfl
 rw[hp] at ht
 have:t=23∨t=23∨t=64:=by simpa using Array.mem_of_getElem? ht
 rcases this with rfl|rfl|rfl
 all_goals exact(show Tryz.prog.wantsStandIn _=false by kernel_rfl)
theorem proved:Rows.ResultantBezoutCardSaid :=
 Claim7.holds_tied_plain_at .later [] _ _ _ _ said (fun _ h=>by cases h) (by kernel_rfl) (fun _ h=>by cases h) resultantBezout_row_tie rfl ⟨rfl,rfl⟩ (by kernel_rfl) rfl plainL (by kernel_rfl)
end RowResultantBezout
end Go.Proofs.YtboilcfohmmpbaaGreatDoor.Sym
