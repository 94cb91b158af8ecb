/- Bezout and Accepts of the program answer as the reference does. -/
import Derived.Test.YtboilcfohmmpbaaGreatDoorM0
import Derived.Test.YtboilcfohmmpbaaGreatDoorM1
namespace Go.Proofs.YtboilcfohmmpbaaGreatDoor.Sym.Path
open Go
set_option maxRecDepth 20000
set_option linter.unusedVariables false
namespace poly_Mul
theorem e1(p q tim:List ARat)(h1:Contract prg 58 [(lpv (lcell ARat.cells) [p,q])] .nilI)(h2:0<p.length)(h3:0<q.length)(h4:(p.length+q.length)<9223372036854775808)(h5:InI64 ((((p.length+q.length):Nat):Int)-2))(h6:((((p.length+q.length):Nat):Int)-2)≤64)(h7:Contract prg 59 [(polyPV p),(polyPV q)] (polyPV tim)):Contract prg 22 [(polyPV p),(polyPV q)] (.tup [(polyPV tim),.nilI]) :=
 Contract.ofL Tryz.func22 (by kernel_rfl) (L.done mixed tabOk (n:=108) (ns:=[3,1,1,1,1,1,1,1,1,1,1,1,1,1,1,1,1,1,1,1,1,1]) (tr:=[.reg [],.reg [.none,.none,(.slc 0 0 (([p,q]:List (List ARat)).map (lcell ARat.cells))),(.pv .nilI)],.reg [],.auto,.reg [.none,(iI (p.length:Int)),.none,.none,.none,(iI (q.length:Int)),.none,(.dec true),.none,.none,(iI (p.length:Int)),.none,(iI (q.length:Int)),(iI (((p.length+q.length):Nat):Int)),(iI ((((p.length+q.length):Nat):Int)-2)),.none,(.dec true)],.dec false,.reg [.none,.none,(.pv (polyPV tim))]]) (cj (o_bs (sz_l ARat.cells) ([p,q]:List (List ARat))) (cj h1 (cj (o_len ARat.cells p) (cj (dltN_t h2) (cj (dltN_t h2) (cj (o_len ARat.cells q) (cj (dltN_t h2) (cj (dltN_t h2) (cj (dltN_t h3) (cj (dltN_t h3) (cj (o_len ARat.cells p) (cj (dltN_t h3) (cj (dltN_t h3) (cj (o_len ARat.cells q) (cj (dltN_t h3) (cj (bs_addN h4) (cj (dltN_t h3) (cj (bs_sub h5) (cj (dltN_t h3) (cj (dltN_t h3) (cj (dlt_f h6) (cj h7 True.intro)))))))))))))))))))))) (by kernel_rfl))
theorem e2(p q tim:List ARat)(h1:Contract prg 58 [(lpv (lcell ARat.cells) [p,q])] .nilI)(h2:0<p.length)(h3:q.length≤0)(h4:Contract prg 59 [(polyPV p),(polyPV q)] (polyPV tim)):Contract prg 22 [(polyPV p),(polyPV q)] (.tup [(polyPV tim),.nilI]) :=
 Contract.ofL Tryz.func22 (by kernel_rfl) (L.done mixed tabOk (n:=108) (ns:=[3,1,1,1,1,1,1,1,1,1,1,1,1,1,1,1,1]) (tr:=[.reg [],.reg [.none,.none,(.slc 0 0 (([p,q]:List (List ARat)).map (lcell ARat.cells))),(.pv .nilI)],.reg [],.auto,.reg [.none,(iI (p.length:Int)),.none,.none,.none,(iI (q.length:Int)),.none,(.dec true),.none,.skip,.skip,.skip,.skip,.skip,.skip,.skip,(.dec false)],.auto,.reg [.none,.none,(.pv (polyPV tim))]]) (cj (o_bs (sz_l ARat.cells) ([p,q]:List (List ARat))) (cj h1 (cj (o_len ARat.cells p) (cj (dltN_t h2) (cj (dltN_t h2) (cj (o_len ARat.cells q) (cj (dltN_t h2) (cj (dltN_t h2) (cj (dltN_f h3) (cj (dltN_f h3) (cj (dltN_f h3) (cj (dltN_f h3) (cj (dltN_f h3) (cj (dltN_f h3) (cj (dltN_f h3) (cj (dltN_f h3) (cj h4 True.intro))))))))))))))))) (by kernel_rfl))
theorem e3(p q tim:List ARat)(h1:Contract prg 58 [(lpv (lcell ARat.cells) [p,q])] .nilI)(h2:p.length≤0)(h3:Contract prg 59 [(polyPV p),(polyPV q)] (polyPV tim)):Contract prg 22 [(polyPV p),(polyPV q)] (.tup [(polyPV tim),.nilI]) :=
 Contract.ofL Tryz.func22 (by kernel_rfl) (L.done mixed tabOk (n:=108) (ns:=[3,1,1,1,1,1,1,1,1,1,1,1,1,1,1]) (tr:=[.reg [],.reg [.none,.none,(.slc 0 0 (([p,q]:List (List ARat)).map (lcell ARat.cells))),(.pv .nilI)],.reg [],.auto,.reg [.none,(iI (p.length:Int)),.none,.none,.skip,.skip,.skip,(.dec false),.none,.skip,.skip,.skip,.skip,.skip,.skip,.skip],.auto,.reg [.none,.none,(.pv (polyPV tim))]]) (cj (o_bs (sz_l ARat.cells) ([p,q]:List (List ARat))) (cj h1 (cj (o_len ARat.cells p) (cj (dltN_f h2) (cj (dltN_f h2) (cj (dltN_f h2) (cj (dltN_f h2) (cj (Eq.refl false) (cj (Eq.refl false) (cj (Eq.refl false) (cj (Eq.refl false) (cj (Eq.refl false) (cj (Eq.refl false) (cj (Eq.refl false) (cj h3 True.intro))))))))))))))) (by kernel_rfl))
end poly_Mul
namespace poly_Check
@[reducible] noncomputable def fn:Func:=Tryz.f46
noncomputable def atK1:List Itm:=focus [0,2,0,0,2,1,2,0,0,2,0,0] [.code (bodyOf fn)]
def inv1(p:List ARat)(t_11:Nat):St:=⟨[(0,(.pv (polyPV p))),(9,(.pv (polyPV p))),(10,(eI (p.length:Int))),(11,(eI (t_11:Int)))],[]⟩
@[reducible] noncomputable def Loop1(p:List ARat)(t_11:Nat)(r:PV):Prop:=L prg fn atK1 (inv1 p t_11) r
theorem e0(p:List ARat)(h1:65<p.length):Contract prg 46 [(polyPV p)] (.iface 61 (vI 4)) :=
 Contract.ofL Tryz.func46 (by kernel_rfl) (L.done mixed tabOk (n:=84) (ns:=[1,1]) (tr:=[.reg [],.reg [.none,(iI (p.length:Int))],.dec true,.reg []]) (cj (o_len ARat.cells p) (cj (dltN_t h1) True.intro)) (by kernel_rfl))
theorem e1(p:List ARat){r:PV}(h1:p.length≤65)(hL:Loop1 p 0 r):Contract prg 46 [(polyPV p)] r :=
 Contract.ofL Tryz.func46 (by kernel_rfl) (L.go mixed tabOk (n:=96) (ns:=[1,1,1]) (tr:=[.reg [],.reg [.none,(iI (p.length:Int))],.dec false,.reg [.none,(iI (p.length:Int))],.keep [0,9,10,11]]) (cj (o_len ARat.cells p) (cj (dltN_f h1) (cj (o_len ARat.cells p) True.intro))) (by kernel_rfl) hL)
theorem l10(p:List ARat)(t_11:Nat)(v:ARat)(val:Bool)(h1:t_11<p.length)(h2:p[t_11]? = some v)(h3:Contract prg 95 [v.pv] (vB val))(h4:val=false):Loop1 p t_11 (.iface 61 (vI 2)) :=
 L.done mixed tabOk (n:=141) (ns:=[1,3,1,1]) (tr:=[.auto,.reg [],.dec true,.reg [(.row t_11 (ARat.cells v))],.reg [.none,(.pv (vB val))],.dec true,.reg []]) (cj (dltN_t h1) (cj (o_at ARat.cells (Eq.refl (((t_11:Nat):Int):Int)) h2) (cj h3 (cj (bnot_t h4) True.intro)))) (by kernel_rfl)
theorem l11(p:List ARat)(t_11:Nat)(v:ARat)(val:Bool){r:PV}(h1:t_11<p.length)(h2:p[t_11]? = some v)(h3:Contract prg 95 [v.pv] (vB val))(h4:val=true)(h5:(t_11+1)<9223372036854775808)(hL:Loop1 p (t_11+1) r):Loop1 p t_11 r :=
 L.go mixed tabOk (n:=144) (ns:=[1,3,1,1,1]) (tr:=[.auto,.reg [],.dec true,.reg [(.row t_11 (ARat.cells v))],.reg [.none,(.pv (vB val))],.dec false,.reg [(iI (((t_11+1):Nat):Int))],.keep [0,9,10,11],.drop [4]]) (cj (dltN_t h1) (cj (o_at ARat.cells (Eq.refl (((t_11:Nat):Int):Int)) h2) (cj h3 (cj (bnot_f h4) (cj (bs_addN h5) True.intro))))) (by kernel_rfl) hL
theorem l12(p:List ARat)(t_11 k:Nat)(v:ARat)(sig:Int)(h1:p.length≤t_11)(h2:0<p.length)(h3:InI64 ((p.length:Int)-1))(h4:((p.length:Int)-1)=(k:Int))(h5:p[k]? = some v)(h6:Contract prg 31 [v.pv] (vI sig))(h7:sig=0):Loop1 p t_11 (.iface 61 (vI 8)) :=
 L.done mixed tabOk (n:=141) (ns:=[1,1,1,1,1,1,1,1,1,3,1,1,1,1,1,1]) (tr:=[.auto,.reg [],.dec false,.reg [.none,(iI (p.length:Int)),.none,.none,.none,.none,(iI (p.length:Int)),(iI ((p.length:Int)-1)),(.row k (ARat.cells v)),.none,(.pv (vI sig)),.none,(.dec true)],.dec true,.reg []]) (cj (dltN_f h1) (cj (o_len ARat.cells p) (cj (dltN_t h2) (cj (dltN_t h2) (cj (dltN_t h2) (cj (o_len ARat.cells p) (cj (dltN_t h2) (cj (bs_sub h3) (cj (dltN_t h2) (cj (o_at ARat.cells h4 h5) (cj (dltN_t h2) (cj (dltN_t h2) (cj h6 (cj (dltN_t h2) (cj (dltN_t h2) (cj (deq_t h7) True.intro)))))))))))))))) (by kernel_rfl)
theorem l13(p:List ARat)(t_11 k:Nat)(v:ARat)(sig:Int)(h1:p.length≤t_11)(h2:0<p.length)(h3:InI64 ((p.length:Int)-1))(h4:((p.length:Int)-1)=(k:Int))(h5:p[k]? = some v)(h6:Contract prg 31 [v.pv] (vI sig))(h7:sig≠0):Loop1 p t_11 .nilI :=
 L.done mixed tabOk (n:=144) (ns:=[1,1,1,1,1,1,1,1,1,3,1,1,1,1,1,1]) (tr:=[.auto,.reg [],.dec false,.reg [.none,(iI (p.length:Int)),.none,.none,.none,.none,(iI (p.length:Int)),(iI ((p.length:Int)-1)),(.row k (ARat.cells v)),.none,(.pv (vI sig)),.none,(.dec true)],.dec false,.reg []]) (cj (dltN_f h1) (cj (o_len ARat.cells p) (cj (dltN_t h2) (cj (dltN_t h2) (cj (dltN_t h2) (cj (o_len ARat.cells p) (cj (dltN_t h2) (cj (bs_sub h3) (cj (dltN_t h2) (cj (o_at ARat.cells h4 h5) (cj (dltN_t h2) (cj (dltN_t h2) (cj h6 (cj (dltN_t h2) (cj (dltN_t h2) (cj (deq_f h7) True.intro)))))))))))))))) (by kernel_rfl)
theorem l14(p:List ARat)(t_11:Nat)(h1:p.length≤t_11)(h2:p.length≤0):Loop1 p t_11 .nilI :=
 L.done mixed tabOk (n:=144) (ns:=[1,1,1,1,1,1,1,1,1,1,1]) (tr:=[.auto,.reg [],.dec false,.reg [.none,(iI (p.length:Int)),.none,.none,.skip,.skip,.skip,.skip,.skip,.skip,.skip,.skip,(.dec false)],.auto,.reg []]) (cj (dltN_f h1) (cj (o_len ARat.cells p) (cj (dltN_f h2) (cj (dltN_f h2) (cj (dltN_f h2) (cj (dltN_f h2) (cj (dltN_f h2) (cj (dltN_f h2) (cj (dltN_f h2) (cj (dltN_f h2) (cj (dltN_f h2) True.intro))))))))))) (by kernel_rfl)
end poly_Check
namespace poly_Degree
theorem e0(p:List ARat)(h1:InI64 ((p.length:Int)-1)):Contract prg 47 [(polyPV p)] (vI ((p.length:Int)-1)) :=
 Contract.ofL Tryz.func47 (by kernel_rfl) (L.done mixed tabOk (n:=72) (ns:=[1,1]) (tr:=[.reg [],.reg [.none,(iI (p.length:Int)),(iI ((p.length:Int)-1))]]) (cj (o_len ARat.cells p) (cj (bs_sub h1) True.intro)) (by kernel_rfl))
end poly_Degree
namespace poly_Derive
theorem e0(p der:List ARat)(h1:Contract prg 46 [(polyPV p)] .nilI)(h2:Contract prg 74 [(polyPV p)] (polyPV der)):Contract prg 48 [(polyPV p)] (.tup [(polyPV der),.nilI]) :=
 Contract.ofL Tryz.func48 (by kernel_rfl) (L.done mixed tabOk (n:=93) (ns:=[1,1]) (tr:=[.reg [],.reg [.none,(.pv .nilI)],.reg [],.auto,.reg [.none,(.pv (polyPV der))]]) (cj h1 (cj h2 True.intro)) (by kernel_rfl))
end poly_Derive
namespace poly_checks
@[reducible] noncomputable def fn:Func:=Tryz.f58
noncomputable def atK1:List Itm:=focus [0,2,0,0,2,0,0] [.code (bodyOf fn)]
def inv1(list:List (List ARat))(t_8:Nat):St:=⟨[(6,(.pv (lpv (lcell ARat.cells) list))),(7,(eI (list.length:Int))),(8,(eI (t_8:Int)))],[]⟩
@[reducible] noncomputable def Loop1(list:List (List ARat))(t_8:Nat)(r:PV):Prop:=L prg fn atK1 (inv1 list t_8) r
theorem e0 (list : List (List ARat)) {r : PV}  (hL : Loop1 list 0 r) : Contract prg 58 [(lpv (lcell ARat.cells) list)] r :=
 Contract.ofL Tryz.func58 (by kernel_rfl) (L.go mixed tabOk (n:=81) (ns:=[1]) (tr:=[.reg [],.reg [.none,(iI (list.length:Int))],.keep [6,7,8]]) (cj (o_len (lcell ARat.cells) list) True.intro) (by kernel_rfl) hL)
theorem l10(list:List (List ARat))(t_8:Nat)(v:List ARat){r:PV}(h1:t_8<list.length)(h2:list[t_8]? = some v)(h3:Contract prg 46 [(polyPV v)] .nilI)(h4:(t_8+1)<9223372036854775808)(hL:Loop1 list (t_8+1) r):Loop1 list t_8 r :=
 L.go mixed tabOk (n:=135) (ns:=[1,3,1,1]) (tr:=[.auto,.reg [],.dec true,.reg [(.row t_8 ((lcell ARat.cells) v))],.reg [.none,(.pv .nilI)],.reg [],.auto,.reg [(iI (((t_8+1):Nat):Int))],.keep [6,7,8]]) (cj (dltN_t h1) (cj (o_at (lcell ARat.cells) (Eq.refl (((t_8:Nat):Int):Int)) h2) (cj h3 (cj (bs_addN h4) True.intro)))) (by kernel_rfl) hL
theorem l11(list:List (List ARat))(t_8:Nat)(v:List ARat)(che:Int)(h1:t_8<list.length)(h2:list[t_8]? = some v)(h3:Contract prg 46 [(polyPV v)] (.iface 61 (vI che))):Loop1 list t_8 (.iface 61 (vI che)) :=
 L.done mixed tabOk (n:=132) (ns:=[1,3,1]) (tr:=[.auto,.reg [],.dec true,.reg [(.row t_8 ((lcell ARat.cells) v))],.reg [.none,(.pv (.iface 61 (vI che)))],.reg [],.auto,.reg []]) (cj (dltN_t h1) (cj (o_at (lcell ARat.cells) (Eq.refl (((t_8:Nat):Int):Int)) h2) (cj h3 True.intro))) (by kernel_rfl)
theorem l12(list:List (List ARat))(t_8:Nat)(h1:list.length≤t_8):Loop1 list t_8 .nilI :=
 L.done mixed tabOk (n:=114) (ns:=[1]) (tr:=[.auto,.reg [],.dec false,.reg []]) (cj (dltN_f h1) True.intro) (by kernel_rfl)
end poly_checks
namespace poly_times
@[reducible] noncomputable def fn:Func:=Tryz.f59
noncomputable def atK1:List Itm:=focus [0,2,0,0,2,1,2,0,2,0,0,2,0,0] [.code (bodyOf fn)]
def inv1(q:List ARat)(m:Nat)(p:List ARat)(t_27:Nat)(site_24:List ARat):St:=⟨[(1,(.pv (polyPV q))),(5,(.row 24 0 m 3)),(25,(.pv (polyPV p))),(26,(eI (p.length:Int))),(27,(eI (t_27:Int)))],[(24,(.pure ((site_24:List ARat).map ARat.cells).flatten))]⟩
@[reducible] noncomputable def Loop1(q:List ARat)(m:Nat)(p:List ARat)(t_27:Nat)(site_24:List ARat)(r:PV):Prop:=L prg fn atK1 (inv1 q m p t_27 site_24) r
noncomputable def atK2:List Itm:=focus [0,2,0,0,2,1,2,0,2,0,0,2,0,0,0,0,2,0,0,2,0,0,0,2,0,2,0,0] [.code (bodyOf fn)]
def inv2(q:List ARat)(m i_6:Nat)(p:List ARat)(t_27 t_34:Nat)(v:ARat)(site_24:List ARat):St:=⟨[(1,(.pv (polyPV q))),(5,(.row 24 0 m 3)),(6,(eI (i_6:Int))),(7,(.ptr 7 0)),(25,(.pv (polyPV p))),(26,(eI (p.length:Int))),(27,(eI (t_27:Int))),(32,(.pv (polyPV q))),(33,(eI (q.length:Int))),(34,(eI (t_34:Int)))],[(7,(.lit [(eB v.neg),(.pv (wordsPV v.num)),(.pv (wordsPV v.den))])),(24,(.pure ((site_24:List ARat).map ARat.cells).flatten))]⟩
@[reducible] noncomputable def Loop2(q:List ARat)(m i_6:Nat)(p:List ARat)(t_27 t_34:Nat)(v:ARat)(site_24:List ARat)(r:PV):Prop:=L prg fn atK2 (inv2 q m i_6 p t_27 t_34 v site_24) r
theorem e0(p q:List ARat)(h1:p.length=0):Contract prg 59 [(polyPV p),(polyPV q)] (polyPV []) :=
 Contract.ofL Tryz.func59 (by kernel_rfl) (L.done mixed tabOk (n:=84) (ns:=[1,1,1,1,1]) (tr:=[.reg [],.reg [.none,(iI (p.length:Int)),.none,.none,.skip,.skip,.skip,(.dec true)],.auto,.reg []]) (cj (o_len ARat.cells p) (cj (deqN_t h1) (cj (deqN_t h1) (cj (deqN_t h1) (cj (deqN_t h1) True.intro))))) (by kernel_rfl))
theorem e1(p q:List ARat)(h1:p.length≠0)(h2:q.length=0):Contract prg 59 [(polyPV p),(polyPV q)] (polyPV []) :=
 Contract.ofL Tryz.func59 (by kernel_rfl) (L.done mixed tabOk (n:=84) (ns:=[1,1,1,1,1,1,1]) (tr:=[.reg [],.reg [.none,(iI (p.length:Int)),.none,.none,.none,(iI (q.length:Int)),.none,(.dec false)],.dec true,.reg []]) (cj (o_len ARat.cells p) (cj (deqN_f h1) (cj (deqN_f h1) (cj (o_len ARat.cells q) (cj (deqN_f h1) (cj (deqN_f h1) (cj (deqN_t h2) True.intro))))))) (by kernel_rfl))
theorem e2(p q:List ARat)(m:Nat){r:PV}(h1:p.length≠0)(h2:q.length≠0)(h3:(p.length+q.length)<9223372036854775808)(h4:InI64 ((((p.length+q.length):Nat):Int)-1))(h5:((((p.length+q.length):Nat):Int)-1)=(m:Int))(h6:56*m≤140737488355328)(hL:Loop1 q m p 0 (List.replicate m (⟨false,[],[]⟩:ARat)) r):Contract prg 59 [(polyPV p),(polyPV q)] r :=
 Contract.ofL Tryz.func59 (by kernel_rfl) (L.go mixed tabOk (n:=102) (ns:=[1,1,1,1,1,1,1,1,1,1,1,5,1]) (tr:=[.reg [],.reg [.none,(iI (p.length:Int)),.none,.none,.none,(iI (q.length:Int)),.none,(.dec false)],.dec false,.reg [.none,(iI (p.length:Int)),.none,(iI (q.length:Int)),(iI (((p.length+q.length):Nat):Int)),(iI ((((p.length+q.length):Nat):Int)-1)),(.app m ((List.replicate m (⟨false,[],[]⟩:ARat):List ARat).map ARat.cells).flatten)],.reg [.none,(iI (p.length:Int))],.keep [1,5,25,26,27]]) (cj (o_len ARat.cells p) (cj (deqN_f h1) (cj (deqN_f h1) (cj (o_len ARat.cells q) (cj (deqN_f h1) (cj (deqN_f h1) (cj (deqN_f h2) (cj (o_len ARat.cells p) (cj (o_len ARat.cells q) (cj (bs_addN h3) (cj (bs_sub h4) (cj (o_mk ARat.cells (⟨false,[],[]⟩:ARat) 56 m h5 h6 rfl) (cj (o_len ARat.cells p) True.intro))))))))))))) (by kernel_rfl) hL)
theorem l10(q:List ARat)(m:Nat)(p:List ARat)(t_27:Nat)(site_24:List ARat)(v:ARat){r:PV}(h1:t_27<p.length)(h2:p[t_27]? = some v)(hL:Loop2 q m t_27 p t_27 0 v site_24 r):Loop1 q m p t_27 site_24 r :=
 L.go mixed tabOk (n:=144) (ns:=[1,3,1]) (tr:=[.auto,.reg [],.dec true,.reg [.none,(.row t_27 (ARat.cells v))],.reg [.none,(iI (q.length:Int))],.keep [1,5,6,7,25,26,27,32,33,34]]) (cj (dltN_t h1) (cj (o_at ARat.cells (Eq.refl (((t_27:Nat):Int):Int)) h2) (cj (o_len ARat.cells q) True.intro))) (by kernel_rfl) hL
theorem l11(q:List ARat)(m:Nat)(p:List ARat)(t_27:Nat)(site_24 tri:List ARat)(h1:p.length≤t_27)(h2:m=site_24.length)(h3:Contract prg 105 [(polyPV site_24)] (polyPV tri)):Loop1 q m p t_27 site_24 (polyPV tri) :=
 L.done mixed tabOk (n:=135) (ns:=[1,3,1]) (tr:=[.auto,.reg [],.dec false,.frzT 5 ((site_24:List ARat).map ARat.cells),.reg [.none,(.pv (polyPV tri))]]) (cj (dltN_f h1) (cj (o_frz sz_ARat (site_24:List ARat) h2) (cj h3 True.intro))) (by kernel_rfl)
theorem l20(q:List ARat)(m i_6:Nat)(p:List ARat)(t_27 t_34:Nat)(v:ARat)(site_24:List ARat)(v1 v2 mul add:ARat){r:PV}(h1:t_34<q.length)(h2:q[t_34]? = some v1)(h3:(i_6+t_34)<9223372036854775808)(h4:(i_6+t_34)<m)(h5:site_24[(i_6+t_34)]? = some v2)(h6:Contract prg 25 [v.pv,v1.pv] mul.pv)(h7:Contract prg 68 [v2.pv,mul.pv] add.pv)(h8:(i_6+t_34)<site_24.length)(h9:(t_34+1)<9223372036854775808)(hL:Loop2 q m i_6 p t_27 (t_34+1) v (site_24.set (i_6+t_34) add) r):Loop2 q m i_6 p t_27 t_34 v site_24 r :=
 L.go mixed tabOk (n:=183) (ns:=[1,3,1,1,2,2,1,1,2,2,1]) (tr:=[.auto,.reg [],.dec true,.reg [.none,(.row t_34 (ARat.cells v1))],dr 15 1 [.none,.none,.none,(iI (((i_6+t_34):Nat):Int)),.none,.none,.none,(iI (((i_6+t_34):Nat):Int)),(.nat (i_6+t_34)),(.seg [(vB v2.neg),(wordsPV v2.num),(wordsPV v2.den)]),.none,.none,(.pv mul.pv),(.pv add.pv),(.nat (i_6+t_34)),(.cells (.pure (((site_24.set (i_6+t_34) add):List ARat).map ARat.cells).flatten))],.reg [(iI (((t_34+1):Nat):Int))],.keep [1,5,6,7,25,26,27,32,33,34],.drop [9]]) (cj (dltN_t h1) (cj (o_at ARat.cells (Eq.refl (((t_34:Nat):Int):Int)) h2) (cj (bs_addN h3) (cj (bs_addN h3) (cj (cj (Eq.refl ((((i_6+t_34):Nat):Int):Int)) h4) (cj (o_seg sz_ARat h5) (cj h6 (cj h7 (cj (cj (Eq.refl ((((i_6+t_34):Nat):Int):Int)) h4) (cj (o_set sz_ARat (site_24:List ARat) add h8) (cj (bs_addN h9) True.intro))))))))))) (by kernel_rfl) hL
theorem l21(q:List ARat)(m i_6:Nat)(p:List ARat)(t_27 t_34:Nat)(v:ARat)(site_24:List ARat){r:PV}(h1:q.length≤t_34)(h2:(t_27+1)<9223372036854775808)(hL:Loop1 q m p (t_27+1) site_24 r):Loop2 q m i_6 p t_27 t_34 v site_24 r :=
 L.go mixed tabOk (n:=177) (ns:=[1,1]) (tr:=[.auto,.reg [],.dec false,.reg [(iI (((t_27+1):Nat):Int))],.keep [1,5,25,26,27],.drop [7]]) (cj (dltN_f h1) (cj (bs_addN h2) True.intro)) (by kernel_rfl) hL
end poly_times
namespace poly_divide
@[reducible] noncomputable def fn:Func:=Tryz.f73
noncomputable def atK1:List Itm:=focus [0,2,0,2,0,2,0,2,0,0,0] [.code (bodyOf fn)]
def inv1(q:List ARat)(len_15 m:Nat)(v:ARat)(site_15 site_23:List ARat):St:=⟨[(1,(.pv (polyPV q))),(6,(.row 15 0 len_15 3)),(7,(.row 23 0 m 3)),(8,(.ptr 8 0))],[(8,(.lit [(eB v.neg),(.pv (wordsPV v.num)),(.pv (wordsPV v.den))])),(15,(.pure ((site_15:List ARat).map ARat.cells).flatten)),(23,(.pure ((site_23:List ARat).map ARat.cells).flatten))]⟩
@[reducible] noncomputable def Loop1(q:List ARat)(len_15 m:Nat)(v:ARat)(site_15 site_23:List ARat)(r:PV):Prop:=L prg fn atK1 (inv1 q len_15 m v site_15 site_23) r
noncomputable def atK2:List Itm:=focus [0,2,0,2,0,2,0,2,0,0,0,0,0,0,2,0,2,0,0,2,0,2,0,2,0,0,2,0,0] [.code (bodyOf fn)]
def inv2(q:List ARat)(len_15 m:Nat)(shift_9:Int)(t_57:Nat)(v div:ARat)(site_15 site_23:List ARat):St:=⟨[(1,(.pv (polyPV q))),(6,(.row 15 0 len_15 3)),(7,(.row 23 0 m 3)),(8,(.ptr 8 0)),(9,(eI shift_9)),(10,(.ptr 10 0)),(55,(.pv (polyPV q))),(56,(eI (q.length:Int))),(57,(eI (t_57:Int)))],[(8,(.lit [(eB v.neg),(.pv (wordsPV v.num)),(.pv (wordsPV v.den))])),(10,(.lit [(eB div.neg),(.pv (wordsPV div.num)),(.pv (wordsPV div.den))])),(15,(.pure ((site_15:List ARat).map ARat.cells).flatten)),(23,(.pure ((site_23:List ARat).map ARat.cells).flatten))]⟩
@[reducible] noncomputable def Loop2(q:List ARat)(len_15 m:Nat)(shift_9:Int)(t_57:Nat)(v div:ARat)(site_15 site_23:List ARat)(r:PV):Prop:=L prg fn atK2 (inv2 q len_15 m shift_9 t_57 v div site_15 site_23) r
theorem e0(p q z:List ARat)(n m k:Nat)(v:ARat){r:PV}(h1:ContractX prg 105 [.pv (polyPV p)] [] (.row 0 0 n 3) [(0,(.pure ((z:List ARat).map ARat.cells).flatten))])(h2:InI64 ((p.length:Int)-(q.length:Int)))(h3:InI64 (((p.length:Int)-(q.length:Int))+1))(h4:(max 0 (((p.length:Int)-(q.length:Int))+1))=(m:Int))(h5:56*m≤140737488355328)(h6:InI64 ((q.length:Int)-1))(h7:((q.length:Int)-1)=(k:Int))(h8:q[k]? = some v)(hL:Loop1 q n m v z (List.replicate m (⟨false,[],[]⟩:ARat)) r):Contract prg 73 [(polyPV p),(polyPV q)] r :=
 Contract.ofL Tryz.func73 (by kernel_rfl) (L.go mixed tabOk (n:=93) (ns:=[1,1,1,1,1,1,5,1,1,3]) (tr:=[.reg [],.reg [.none,(.callX [] (some (0,15)) (.row 0 0 n 3) [(0,(.pure ((z:List ARat).map ARat.cells).flatten))])],.reg [.none,(iI (p.length:Int)),.none,(iI (q.length:Int)),(iI ((p.length:Int)-(q.length:Int))),(iI (((p.length:Int)-(q.length:Int))+1)),(iI (max 0 (((p.length:Int)-(q.length:Int))+1))),(.app m ((List.replicate m (⟨false,[],[]⟩:ARat):List ARat).map ARat.cells).flatten)],.reg [.none,.none,(iI (q.length:Int)),(iI ((q.length:Int)-1)),(.row k (ARat.cells v))],.keep [1,6,7,8],.ord [8,15,23]]) (cj h1 (cj (o_len ARat.cells p) (cj (o_len ARat.cells q) (cj (bs_sub h2) (cj (bs_add h3) (cj (o_maxI 0 (((p.length:Int)-(q.length:Int))+1)) (cj (o_mk ARat.cells (⟨false,[],[]⟩:ARat) 56 m h4 h5 rfl) (cj (o_len ARat.cells q) (cj (bs_sub h6) (cj (o_at ARat.cells h7 h8) True.intro)))))))))) (by kernel_rfl) hL)
theorem l10(q:List ARat)(len_15 m:Nat)(v:ARat)(site_15 site_23:List ARat)(k:Nat)(v1 div:ARat)(div1:Option Int)(k1:Nat){r:PV}(h1:q.length≤len_15)(h2:InI64 ((len_15:Int)-(q.length:Int)))(h3:InI64 ((len_15:Int)-1))(h4:((len_15:Int)-1)=(k:Int))(h5:k<len_15)(h6:site_15[k]? = some v1)(h7:Contract prg 49 [v1.pv,v.pv] (.tup [div.pv,(errPV div1)]))(h8:((len_15:Int)-(q.length:Int))=(k1:Int))(h9:k1<m)(h10:k1<site_23.length)(hL:Loop2 q len_15 m ((len_15:Int)-(q.length:Int)) 0 v div site_15 (site_23.set k1 div) r):Loop1 q len_15 m v site_15 site_23 r :=
 L.go mixed tabOk (n:=147) (ns:=[1,1,1,1,1,2,2,1,2,2,1]) (tr:=[.auto,.reg [.none,.none,.none,(iI (q.length:Int))],.dec true,.reg [.none,.none,.none,(iI (q.length:Int)),(iI ((len_15:Int)-(q.length:Int)))],dr 13 1 [.none,.none,.none,(iI ((len_15:Int)-1)),(.nat k),(.seg [(vB v1.neg),(wordsPV v1.num),(wordsPV v1.den)]),.none,(.pv (.tup [div.pv,(errPV div1)]))],.reg [.none,.none,.none,(.nat k1),(.cells (.pure (((site_23.set k1 div):List ARat).map ARat.cells).flatten))],.reg [.none,(iI (q.length:Int))],.keep [1,6,7,8,9,10,55,56,57],.ord [8,10,15,23]]) (cj (o_len ARat.cells q) (cj (dleN_t h1) (cj (o_len ARat.cells q) (cj (bs_sub h2) (cj (bs_sub h3) (cj (cj h4 h5) (cj (o_seg sz_ARat h6) (cj h7 (cj (cj h8 h9) (cj (o_set sz_ARat (site_23:List ARat) div h10) (cj (o_len ARat.cells q) True.intro))))))))))) (by kernel_rfl) hL
theorem l11(q:List ARat)(len_15 m:Nat)(v:ARat)(site_15 site_23 tri:List ARat)(h1:len_15<q.length)(h2:m=site_23.length)(h3:Contract prg 105 [(polyPV site_23)] (polyPV tri))(h4:len_15=site_15.length):Loop1 q len_15 m v site_15 site_23 (.tup [(polyPV tri),(polyPV site_15)]) :=
 L.done mixed tabOk (n:=126) (ns:=[1,1,3,1,3]) (tr:=[.auto,.reg [.none,.none,.none,(iI (q.length:Int))],.dec false,.frzT 7 ((site_23:List ARat).map ARat.cells),.reg [.none,(.pv (polyPV tri))],.frzT 5 ((site_15:List ARat).map ARat.cells)]) (cj (o_len ARat.cells q) (cj (dleN_f h1) (cj (o_frz sz_ARat (site_23:List ARat) h2) (cj h3 (cj (o_frz sz_ARat (site_15:List ARat) h4) True.intro))))) (by kernel_rfl)
theorem l20(q:List ARat)(len_15 m:Nat)(shift_9:Int)(t_57:Nat)(v div:ARat)(site_15 site_23:List ARat)(v1:ARat)(k:Nat)(v2 mul sub:ARat)(k1:Nat){r:PV}(h1:t_57<q.length)(h2:q[t_57]? = some v1)(h3:InI64 (shift_9+(t_57:Int)))(h4:(shift_9+(t_57:Int))=(k:Int))(h5:k<len_15)(h6:site_15[k]? = some v2)(h7:Contract prg 25 [div.pv,v1.pv] mul.pv)(h8:Contract prg 34 [v2.pv,mul.pv] sub.pv)(h9:(shift_9+(t_57:Int))=(k1:Int))(h10:k1<len_15)(h11:k1<site_15.length)(h12:(t_57+1)<9223372036854775808)(hL:Loop2 q len_15 m shift_9 (t_57+1) v div (site_15.set k1 sub) site_23 r):Loop2 q len_15 m shift_9 t_57 v div site_15 site_23 r :=
 L.go mixed tabOk (n:=186) (ns:=[1,3,1,1,2,2,1,1,2,2,1]) (tr:=[.auto,.reg [],.dec true,.reg [.none,(.row t_57 (ARat.cells v1))],dr 15 1 [.none,.none,.none,(iI (shift_9+(t_57:Int))),.none,.none,.none,(iI (shift_9+(t_57:Int))),(.nat k),(.seg [(vB v2.neg),(wordsPV v2.num),(wordsPV v2.den)]),.none,.none,(.pv mul.pv),(.pv sub.pv),(.nat k1),(.cells (.pure (((site_15.set k1 sub):List ARat).map ARat.cells).flatten))],.reg [(iI (((t_57+1):Nat):Int))],.keep [1,6,7,8,9,10,55,56,57],.drop [13]]) (cj (dltN_t h1) (cj (o_at ARat.cells (Eq.refl (((t_57:Nat):Int):Int)) h2) (cj (bs_add h3) (cj (bs_add h3) (cj (cj h4 h5) (cj (o_seg sz_ARat h6) (cj h7 (cj h8 (cj (cj h9 h10) (cj (o_set sz_ARat (site_15:List ARat) sub h11) (cj (bs_addN h12) True.intro))))))))))) (by kernel_rfl) hL
theorem l21(q:List ARat)(len_15 m:Nat)(shift_9:Int)(t_57:Nat)(v div:ARat)(site_15 site_23 z:List ARat)(n:Nat){r:PV}(h1:q.length≤t_57)(h2:len_15=site_15.length)(h3:ContractX prg 105 [.pv (polyPV site_15)] [] (.row 0 0 n 3) [(0,(.pure ((z:List ARat).map ARat.cells).flatten))])(hL:Loop1 q n m v z site_23 r):Loop2 q len_15 m shift_9 t_57 v div site_15 site_23 r :=
 L.go mixed tabOk (n:=180) (ns:=[1,3,1]) (tr:=[.auto,.reg [],.dec false,.frzT 6 ((site_15:List ARat).map ARat.cells),.reg [.none,(.callX [] (some (0,79)) (.row 0 0 n 3) [(0,(.pure ((z:List ARat).map ARat.cells).flatten))])],.keep [1,6,7,8],.drop [10],.ren 79 15,.ord [8,15,23]]) (cj (dltN_f h1) (cj (o_frz sz_ARat (site_15:List ARat) h2) (cj h3 True.intro))) (by kernel_rfl) hL
end poly_divide
namespace poly_derive
@[reducible] noncomputable def fn:Func:=Tryz.f74
noncomputable def atK1:List Itm:=focus [0,2,0,2,0,0,2,0,0] [.code (bodyOf fn)]
def inv1(p site_20:List ARat)(i_4:Nat):St:=⟨[(0,(.pv (polyPV p))),(3,(.row 20 0 site_20.length 3)),(4,(eI (i_4:Int)))],[(20,(.pure ((site_20:List ARat).map ARat.cells).flatten))]⟩
@[reducible] noncomputable def Loop1(p site_20:List ARat)(i_4:Nat)(r:PV):Prop:=L prg fn atK1 (inv1 p site_20 i_4) r
theorem e0 (p : List ARat) {r : PV}  (hL : Loop1 p [] 1 r) : Contract prg 74 [(polyPV p)] r :=
 Contract.ofL Tryz.func74 (by kernel_rfl) (L.go mixed tabOk (n:=87) (ns:=[]) (tr:=[.reg [],.reg [.nil],.adopt 3 20 3,.reg [],.keep [0,3,4]]) True.intro (by kernel_rfl) hL)
theorem l10(p site_20:List ARat)(i_4:Nat)(of v mul:ARat){r:PV}(h1:i_4<p.length)(h2:Contract prg 29 [(vI (i_4:Int))] of.pv)(h3:p[i_4]? = some v)(h4:Contract prg 25 [of.pv,v.pv] mul.pv)(h5:((site_20++[mul]):List ARat).length*56≤140737488355328)(h6:(i_4+1)<9223372036854775808)(hL:Loop1 p (site_20++[mul]) (i_4+1) r):Loop1 p site_20 i_4 r :=
 L.go mixed tabOk (n:=120) (ns:=[1,1,1,3,1,6,1]) (tr:=[.auto,.reg [.none,.none,(iI (p.length:Int))],.dec true,dr 9 2 [.none,.none,(.pv of.pv),.none,.none,(.row i_4 (ARat.cells v)),.none,(.pv mul.pv),.none,(.app ((site_20++[mul]):List ARat).length (((site_20++[mul]):List ARat).map ARat.cells).flatten)],.reg [.none,(iI (((i_4+1):Nat):Int))],.keep [0,3,4],.drop [19]]) (cj (o_len ARat.cells p) (cj (dltN_t h1) (cj h2 (cj (o_at ARat.cells (Eq.refl (((i_4:Nat):Int):Int)) h3) (cj h4 (cj (o_appR sz_ARat (site_20:List ARat) ([mul]:List ARat) 56 (Eq.refl (site_20:List ARat).length) (Eq.refl ([mul]:List ARat).length) h5 rfl) (cj (bs_addN h6) True.intro))))))) (by kernel_rfl) hL
theorem l11(p site_20:List ARat)(i_4:Nat)(tri:List ARat)(h1:p.length≤i_4)(h2:Contract prg 105 [(polyPV site_20)] (polyPV tri)):Loop1 p site_20 i_4 (polyPV tri) :=
 L.done mixed tabOk (n:=120) (ns:=[1,1,3,1]) (tr:=[.auto,.reg [.none,.none,(iI (p.length:Int))],.dec false,.frzT 3 ((site_20:List ARat).map ARat.cells),.reg [.none,(.pv (polyPV tri))]]) (cj (o_len ARat.cells p) (cj (dltN_f h1) (cj (o_frz sz_ARat (site_20:List ARat) (Eq.refl (site_20:List ARat).length)) (cj h2 True.intro)))) (by kernel_rfl)
end poly_derive
namespace poly_Scale
theorem e0(p:List ARat)(c:ARat)(plu:List ARat)(h1:Contract prg 46 [(polyPV p)] .nilI)(h2:Contract prg 118 [(polyPV []),(polyPV p),c.pv] (polyPV plu)):Contract prg 76 [(polyPV p),c.pv] (.tup [(polyPV plu),.nilI]) :=
 Contract.ofL Tryz.func76 (by kernel_rfl) (L.done mixed tabOk (n:=93) (ns:=[1,1]) (tr:=[.reg [],.reg [.none,(.pv .nilI)],.reg [],.auto,.reg [.none,.none,(.pv (polyPV plu))]]) (cj h1 (cj h2 True.intro)) (by kernel_rfl))
end poly_Scale
namespace poly_Div
theorem e1(p q div div1:List ARat)(h1:Contract prg 58 [(lpv (lcell ARat.cells) [p,q])] .nilI)(h2:q.length≠0)(h3:Contract prg 73 [(polyPV p),(polyPV q)] (.tup [(polyPV div),(polyPV div1)])):Contract prg 78 [(polyPV p),(polyPV q)] (.tup [(polyPV div),(polyPV div1),.nilI]) :=
 Contract.ofL Tryz.func78 (by kernel_rfl) (L.done mixed tabOk (n:=114) (ns:=[3,1,1,1,1]) (tr:=[.reg [],.reg [.none,.none,(.slc 0 0 (([p,q]:List (List ARat)).map (lcell ARat.cells))),(.pv .nilI)],.reg [],.auto,.reg [.none,(iI (q.length:Int))],.dec false,.reg [.none,.none,(.pv (.tup [(polyPV div),(polyPV div1)]))],.reg []]) (cj (o_bs (sz_l ARat.cells) ([p,q]:List (List ARat))) (cj h1 (cj (o_len ARat.cells q) (cj (deqN_f h2) (cj h3 True.intro))))) (by kernel_rfl))
end poly_Div
namespace poly_Add
theorem e0(p q:List ARat)(of:ARat)(plu:List ARat)(h1:Contract prg 58 [(lpv (lcell ARat.cells) [p,q])] .nilI)(h2:Contract prg 29 [(vI 1)] of.pv)(h3:Contract prg 118 [(polyPV p),(polyPV q),of.pv] (polyPV plu)):Contract prg 82 [(polyPV p),(polyPV q)] (.tup [(polyPV plu),.nilI]) :=
 Contract.ofL Tryz.func82 (by kernel_rfl) (L.done mixed tabOk (n:=93) (ns:=[3,1,1,1]) (tr:=[.reg [],.reg [.none,.none,(.slc 0 0 (([p,q]:List (List ARat)).map (lcell ARat.cells))),(.pv .nilI)],.reg [],.auto,.reg [.none,.none,(.pv of.pv),(.pv (polyPV plu))]]) (cj (o_bs (sz_l ARat.cells) ([p,q]:List (List ARat))) (cj h1 (cj h2 (cj h3 True.intro)))) (by kernel_rfl))
end poly_Add
namespace poly_Trim
@[reducible] noncomputable def fn:Func:=Tryz.f105
noncomputable def atK1:List Itm:=focus [0,2,0,2,0,0,2,0,0] [.code (bodyOf fn)]
def inv1(site_17 l:List ARat)(t_8:Nat):St:=⟨[(3,(.row 17 0 site_17.length 3)),(6,(.pv (polyPV l))),(7,(eI (l.length:Int))),(8,(eI (t_8:Int)))],[(17,(.pure ((site_17:List ARat).map ARat.cells).flatten))]⟩
@[reducible] noncomputable def Loop1(site_17 l:List ARat)(t_8:Nat)(r:PV):Prop:=L prg fn atK1 (inv1 site_17 l t_8) r
noncomputable def atK2:List Itm:=focus [0,2,0,2,0,0,2,0,0,0,0,2,0,1,2,2,2,2,0,0,0] [.code (bodyOf fn)]
def inv2(site_17:List ARat):St:=⟨[(3,(.row 17 0 site_17.length 3))],[(17,(.pure ((site_17:List ARat).map ARat.cells).flatten))]⟩
@[reducible] noncomputable def Loop2(site_17:List ARat)(r:PV):Prop:=L prg fn atK2 (inv2 site_17) r
theorem e0 (l : List ARat) {r : PV}  (hL : Loop1 [] l 0 r) : Contract prg 105 [(polyPV l)] r :=
 Contract.ofL Tryz.func105 (by kernel_rfl) (L.go mixed tabOk (n:=87) (ns:=[1]) (tr:=[.reg [],.reg [.nil],.adopt 3 17 3,.reg [.none,(iI (l.length:Int))],.keep [3,6,7,8]]) (cj (o_len ARat.cells l) True.intro) (by kernel_rfl) hL)
theorem l10(site_17 l:List ARat)(t_8:Nat)(v add:ARat){r:PV}(h1:t_8<l.length)(h2:l[t_8]? = some v)(h3:Contract prg 68 [v.pv,(⟨false,[],[]⟩:ARat).pv] add.pv)(h4:((site_17++[add]):List ARat).length*56≤140737488355328)(h5:(t_8+1)<9223372036854775808)(hL:Loop1 (site_17++[add]) l (t_8+1) r):Loop1 site_17 l t_8 r :=
 L.go mixed tabOk (n:=126) (ns:=[1,3,1,6,1]) (tr:=[.auto,.reg [],.dec true,.reg [(.row t_8 (ARat.cells v))],.reg [.none,.none,.none,(.pv add.pv),.none,(.app ((site_17++[add]):List ARat).length (((site_17++[add]):List ARat).map ARat.cells).flatten)],.reg [(iI (((t_8+1):Nat):Int))],.keep [3,6,7,8],.drop [16,5]]) (cj (dltN_t h1) (cj (o_at ARat.cells (Eq.refl (((t_8:Nat):Int):Int)) h2) (cj h3 (cj (o_appR sz_ARat (site_17:List ARat) ([add]:List ARat) 56 (Eq.refl (site_17:List ARat).length) (Eq.refl ([add]:List ARat).length) h4 rfl) (cj (bs_addN h5) True.intro))))) (by kernel_rfl) hL
theorem l11(site_17 l:List ARat)(t_8:Nat){r:PV}(h1:l.length≤t_8)(hL:Loop2 site_17 r):Loop1 site_17 l t_8 r :=
 L.go mixed tabOk (n:=123) (ns:=[1]) (tr:=[.auto,.reg [],.dec false,.keep [3]]) (cj (dltN_f h1) True.intro) (by kernel_rfl) hL
theorem l20(site_17:List ARat)(k:Nat)(v:ARat)(sig:Int)(u:Nat){r:PV}(h1:0<site_17.length)(h2:InI64 ((site_17.length:Int)-1))(h3:((site_17.length:Int)-1)=(k:Int))(h4:k<site_17.length)(h5:site_17[k]? = some v)(h6:Contract prg 31 [v.pv] (vI sig))(h7:sig=0)(h8:((site_17.length:Int)-1)=(u:Int))(h9:u≤(site_17:List ARat).length)(hL:Loop2 (site_17.take u) r):Loop2 site_17 r :=
 L.go mixed tabOk (n:=150) (ns:=[1,1,1,1,1,1,2,1,2,1,1,1,1,1,1,5,1]) (tr:=[.auto,.reg [.none,.none,.none,.none,.none,.none,.none,(iI ((site_17.length:Int)-1)),(.nat k),(.seg [(vB v.neg),(wordsPV v.num),(wordsPV v.den)]),(.pv (vI sig)),.none,(.dec true)],.dec true,.reg [.none,.none,.none,(iI ((site_17.length:Int)-1)),(.slc 0 ((site_17.take u).length) [])],.cut 17 (u*3) (((site_17.take u):List ARat).map ARat.cells).flatten,.keep [3]]) (cj (dltN_t h1) (cj (dltN_t h1) (cj (dltN_t h1) (cj (dltN_t h1) (cj (bs_sub h2) (cj (dltN_t h1) (cj (cj h3 h4) (cj (dltN_t h1) (cj (o_seg sz_ARat h5) (cj (dltN_t h1) (cj h6 (cj (dltN_t h1) (cj (dltN_t h1) (cj (deq_t h7) (cj (bs_sub h2) (cj (o_sr0 (site_17:List ARat) h8 h9) (cj (o_cut sz_ARat (site_17:List ARat) u) True.intro))))))))))))))))) (by kernel_rfl) hL
theorem l21(site_17:List ARat)(k:Nat)(v:ARat)(sig:Int)(h1:0<site_17.length)(h2:InI64 ((site_17.length:Int)-1))(h3:((site_17.length:Int)-1)=(k:Int))(h4:k<site_17.length)(h5:site_17[k]? = some v)(h6:Contract prg 31 [v.pv] (vI sig))(h7:sig≠0):Loop2 site_17 (polyPV site_17) :=
 L.done mixed tabOk (n:=156) (ns:=[1,1,1,1,1,1,2,1,2,1,1,1,1,1,3]) (tr:=[.auto,.reg [.none,.none,.none,.none,.none,.none,.none,(iI ((site_17.length:Int)-1)),(.nat k),(.seg [(vB v.neg),(wordsPV v.num),(wordsPV v.den)]),(.pv (vI sig)),.none,(.dec true)],.dec false,.reg [],.frzT 2 ((site_17:List ARat).map ARat.cells)]) (cj (dltN_t h1) (cj (dltN_t h1) (cj (dltN_t h1) (cj (dltN_t h1) (cj (bs_sub h2) (cj (dltN_t h1) (cj (cj h3 h4) (cj (dltN_t h1) (cj (o_seg sz_ARat h5) (cj (dltN_t h1) (cj h6 (cj (dltN_t h1) (cj (dltN_t h1) (cj (deq_f h7) (cj (o_frz sz_ARat (site_17:List ARat) (Eq.refl (site_17:List ARat).length)) True.intro))))))))))))))) (by kernel_rfl)
theorem l22(site_17:List ARat)(h1:site_17.length≤0):Loop2 site_17 (polyPV site_17) :=
 L.done mixed tabOk (n:=156) (ns:=[1,1,1,1,1,1,1,1,1,3]) (tr:=[.auto,.reg [.none,.none,.none,.none,.skip,.skip,.skip,.skip,.skip,.skip,.skip,.skip,(.dec false)],.auto,.reg [],.frzT 2 ((site_17:List ARat).map ARat.cells)]) (cj (dltN_f h1) (cj (dltN_f h1) (cj (dltN_f h1) (cj (dltN_f h1) (cj (dltN_f h1) (cj (dltN_f h1) (cj (dltN_f h1) (cj (dltN_f h1) (cj (dltN_f h1) (cj (o_frz sz_ARat (site_17:List ARat) (Eq.refl (site_17:List ARat).length)) True.intro)))))))))) (by kernel_rfl)
end poly_Trim
namespace poly_TrimX
@[reducible] noncomputable def fn:Func:=Tryz.f105
noncomputable def atK1:List Itm:=focus [0,2,0,2,0,0,2,0,0] [.code (bodyOf fn)]
def inv1(site_17 l:List ARat)(t_8:Nat):St:=⟨[(3,(.row 17 0 site_17.length 3)),(6,(.pv (polyPV l))),(7,(eI (l.length:Int))),(8,(eI (t_8:Int)))],[(17,(.pure ((site_17:List ARat).map ARat.cells).flatten))]⟩
@[reducible] noncomputable def Loop1(site_17 l:List ARat)(t_8:Nat)(sin:Sto)(r:EV)(sout:Sto):Prop:=LX prg fn atK1 (inv1 site_17 l t_8) sin r sout
noncomputable def atK2:List Itm:=focus [0,2,0,2,0,0,2,0,0,0,0,2,0,1,2,2,2,2,0,0,0] [.code (bodyOf fn)]
def inv2(site_17:List ARat):St:=⟨[(3,(.row 17 0 site_17.length 3))],[(17,(.pure ((site_17:List ARat).map ARat.cells).flatten))]⟩
@[reducible] noncomputable def Loop2(site_17:List ARat)(sin:Sto)(r:EV)(sout:Sto):Prop:=LX prg fn atK2 (inv2 site_17) sin r sout
theorem e0 (l : List ARat) {r : EV} {sout : Sto}  (hL : Loop1 [] l 0 [] r sout) : ContractX prg 105 [(.pv (polyPV l))] [] r sout :=
 ContractX.ofL Tryz.func105 (by kernel_rfl) (LX.go mixed tabOk (n:=87) (ns:=[1]) (tr:=[.reg [],.reg [.nil],.adopt 3 17 3,.reg [.none,(iI (l.length:Int))],.keep [3,6,7,8]]) rfl (cj (o_len ARat.cells l) True.intro) (by kernel_rfl) hL)
theorem l10(site_17 l:List ARat)(t_8:Nat)(v add:ARat){r:EV}{sout:Sto}{sin:Sto}(hs:sin.all (fun p=>Nat.ble fn.ntmps p.1)=true)(h1:t_8<l.length)(h2:l[t_8]? = some v)(h3:Contract prg 68 [v.pv,(⟨false,[],[]⟩:ARat).pv] add.pv)(h4:((site_17++[add]):List ARat).length*56≤140737488355328)(h5:(t_8+1)<9223372036854775808)(hL:Loop1 (site_17++[add]) l (t_8+1) sin r sout):Loop1 site_17 l t_8 sin r sout :=
 LX.go mixed tabOk (n:=126) (ns:=[1,3,1,6,1]) (tr:=[.auto,.reg [],.dec true,.reg [(.row t_8 (ARat.cells v))],.reg [.none,.none,.none,(.pv add.pv),.none,(.app ((site_17++[add]):List ARat).length (((site_17++[add]):List ARat).map ARat.cells).flatten)],.reg [(iI (((t_8+1):Nat):Int))],.keep [3,6,7,8],.drop [16,5]]) hs (cj (dltN_t h1) (cj (o_at ARat.cells (Eq.refl (((t_8:Nat):Int):Int)) h2) (cj h3 (cj (o_appR sz_ARat (site_17:List ARat) ([add]:List ARat) 56 (Eq.refl (site_17:List ARat).length) (Eq.refl ([add]:List ARat).length) h4 rfl) (cj (bs_addN h5) True.intro))))) (by kernel_rfl) hL
theorem l11(site_17 l:List ARat)(t_8:Nat){r:EV}{sout:Sto}{sin:Sto}(hs:sin.all (fun p=>Nat.ble fn.ntmps p.1)=true)(h1:l.length≤t_8)(hL:Loop2 site_17 sin r sout):Loop1 site_17 l t_8 sin r sout :=
 LX.go mixed tabOk (n:=123) (ns:=[1]) (tr:=[.auto,.reg [],.dec false,.keep [3]]) hs (cj (dltN_f h1) True.intro) (by kernel_rfl) hL
theorem l20(site_17:List ARat)(k:Nat)(v:ARat)(sig:Int)(u:Nat){r:EV}{sout:Sto}{sin:Sto}(hs:sin.all (fun p=>Nat.ble fn.ntmps p.1)=true)(h1:0<site_17.length)(h2:InI64 ((site_17.length:Int)-1))(h3:((site_17.length:Int)-1)=(k:Int))(h4:k<site_17.length)(h5:site_17[k]? = some v)(h6:Contract prg 31 [v.pv] (vI sig))(h7:sig=0)(h8:((site_17.length:Int)-1)=(u:Int))(h9:u≤(site_17:List ARat).length)(hL:Loop2 (site_17.take u) sin r sout):Loop2 site_17 sin r sout :=
 LX.go mixed tabOk (n:=150) (ns:=[1,1,1,1,1,1,2,1,2,1,1,1,1,1,1,5,1]) (tr:=[.auto,.reg [.none,.none,.none,.none,.none,.none,.none,(iI ((site_17.length:Int)-1)),(.nat k),(.seg [(vB v.neg),(wordsPV v.num),(wordsPV v.den)]),(.pv (vI sig)),.none,(.dec true)],.dec true,.reg [.none,.none,.none,(iI ((site_17.length:Int)-1)),(.slc 0 ((site_17.take u).length) [])],.cut 17 (u*3) (((site_17.take u):List ARat).map ARat.cells).flatten,.keep [3]]) hs (cj (dltN_t h1) (cj (dltN_t h1) (cj (dltN_t h1) (cj (dltN_t h1) (cj (bs_sub h2) (cj (dltN_t h1) (cj (cj h3 h4) (cj (dltN_t h1) (cj (o_seg sz_ARat h5) (cj (dltN_t h1) (cj h6 (cj (dltN_t h1) (cj (dltN_t h1) (cj (deq_t h7) (cj (bs_sub h2) (cj (o_sr0 (site_17:List ARat) h8 h9) (cj (o_cut sz_ARat (site_17:List ARat) u) True.intro))))))))))))))))) (by kernel_rfl) hL
theorem l21(site_17:List ARat)(k:Nat)(v:ARat)(sig:Int){sin:Sto}(hs:sin.all (fun p=>Nat.ble fn.ntmps p.1)=true)(hi:sin.all (fun p=>gvB p.1||(Sto.get [(0,(.pure ((site_17:List ARat).map ARat.cells).flatten))] p.1).isSome)=true)(h1:0<site_17.length)(h2:InI64 ((site_17.length:Int)-1))(h3:((site_17.length:Int)-1)=(k:Int))(h4:k<site_17.length)(h5:site_17[k]? = some v)(h6:Contract prg 31 [v.pv] (vI sig))(h7:sig≠0):Loop2 site_17 sin (.row 0 0 site_17.length 3) [(0,(.pure ((site_17:List ARat).map ARat.cells).flatten))] :=
 LX.done2 mixed tabOk (n:=156) (ns:=[1,1,1,1,1,1,2,1,2,1,1,1,1,1]) (tr:=[.auto,.reg [.none,.none,.none,.none,.none,.none,.none,(iI ((site_17.length:Int)-1)),(.nat k),(.seg [(vB v.neg),(wordsPV v.num),(wordsPV v.den)]),(.pv (vI sig)),.none,(.dec true)],.dec false,.reg [],.ren 17 0,.ord [0]]) hs hi (cj (dltN_t h1) (cj (dltN_t h1) (cj (dltN_t h1) (cj (dltN_t h1) (cj (bs_sub h2) (cj (dltN_t h1) (cj (cj h3 h4) (cj (dltN_t h1) (cj (o_seg sz_ARat h5) (cj (dltN_t h1) (cj h6 (cj (dltN_t h1) (cj (dltN_t h1) (cj (deq_f h7) True.intro)))))))))))))) (by kernel_rfl)
theorem l22(site_17:List ARat){sin:Sto}(hs:sin.all (fun p=>Nat.ble fn.ntmps p.1)=true)(hi:sin.all (fun p=>gvB p.1||(Sto.get [(0,(.pure ((site_17:List ARat).map ARat.cells).flatten))] p.1).isSome)=true)(h1:site_17.length≤0):Loop2 site_17 sin (.row 0 0 site_17.length 3) [(0,(.pure ((site_17:List ARat).map ARat.cells).flatten))] :=
 LX.done2 mixed tabOk (n:=156) (ns:=[1,1,1,1,1,1,1,1,1]) (tr:=[.auto,.reg [.none,.none,.none,.none,.skip,.skip,.skip,.skip,.skip,.skip,.skip,.skip,(.dec false)],.auto,.reg [],.ren 17 0,.ord [0]]) hs hi (cj (dltN_f h1) (cj (dltN_f h1) (cj (dltN_f h1) (cj (dltN_f h1) (cj (dltN_f h1) (cj (dltN_f h1) (cj (dltN_f h1) (cj (dltN_f h1) (cj (dltN_f h1) True.intro))))))))) (by kernel_rfl)
end poly_TrimX
namespace poly_plus
@[reducible] noncomputable def fn:Func:=Tryz.f118
noncomputable def atK1:List Itm:=focus [0,2,0,2,0,0,2,0,0] [.code (bodyOf fn)]
def inv1(p q:List ARat)(t_17:Nat)(c:ARat)(site_14:List ARat):St:=⟨[(0,(.pv (polyPV p))),(1,(.pv (polyPV q))),(5,(.ptr 5 0)),(7,(.row 14 0 (max p.length q.length) 3)),(16,(eI (((max p.length q.length):Nat):Int))),(17,(eI (t_17:Int)))],[(5,(.lit [(eB c.neg),(.pv (wordsPV c.num)),(.pv (wordsPV c.den))])),(14,(.pure ((site_14:List ARat).map ARat.cells).flatten))]⟩
@[reducible] noncomputable def Loop1(p q:List ARat)(t_17:Nat)(c:ARat)(site_14:List ARat)(r:PV):Prop:=L prg fn atK1 (inv1 p q t_17 c site_14) r
theorem e0(p q:List ARat)(c:ARat){r:PV}(h1:56*(max p.length q.length)≤140737488355328)(hL:Loop1 p q 0 c (List.replicate (max p.length q.length) (⟨false,[],[]⟩:ARat)) r):Contract prg 118 [(polyPV p),(polyPV q),c.pv] r :=
 Contract.ofL Tryz.func118 (by kernel_rfl) (L.go mixed tabOk (n:=87) (ns:=[1,1,1,5]) (tr:=[.reg [],.reg [.none,(iI (p.length:Int)),.none,(iI (q.length:Int)),(iI (((max p.length q.length):Nat):Int)),(.app (max p.length q.length) ((List.replicate (max p.length q.length) (⟨false,[],[]⟩:ARat):List ARat).map ARat.cells).flatten)],.reg [],.keep [0,1,5,7,16,17],.ord [5,14]]) (cj (o_len ARat.cells p) (cj (o_len ARat.cells q) (cj (o_maxN p.length q.length) (cj (o_mk ARat.cells (⟨false,[],[]⟩:ARat) 56 (max p.length q.length) (Eq.refl ((((max p.length q.length):Nat):Int):Int)) h1 rfl) True.intro)))) (by kernel_rfl) hL)
theorem l10(p q:List ARat)(t_17:Nat)(c:ARat)(site_14:List ARat)(coe coe1 mul add:ARat){r:PV}(h1:t_17<(max p.length q.length))(h2:Contract prg 147 [(polyPV p),(vI (t_17:Int))] coe.pv)(h3:Contract prg 147 [(polyPV q),(vI (t_17:Int))] coe1.pv)(h4:Contract prg 25 [c.pv,coe1.pv] mul.pv)(h5:Contract prg 68 [coe.pv,mul.pv] add.pv)(h6:t_17<site_14.length)(h7:(t_17+1)<9223372036854775808)(hL:Loop1 p q (t_17+1) c (site_14.set t_17 add) r):Loop1 p q t_17 c site_14 r :=
 L.go mixed tabOk (n:=126) (ns:=[1,1,1,1,1,2,2,1]) (tr:=[.auto,.reg [],.dec true,.reg [],dr 12 1 [.none,.none,.none,.none,(.pv coe.pv),.none,.none,.none,(.pv coe1.pv),(.pv mul.pv),(.pv add.pv),(.nat t_17),(.cells (.pure (((site_14.set t_17 add):List ARat).map ARat.cells).flatten))],.reg [(iI (((t_17+1):Nat):Int))],.keep [0,1,5,7,16,17]]) (cj (dltN_t h1) (cj h2 (cj h3 (cj h4 (cj h5 (cj (cj (Eq.refl (((t_17:Nat):Int):Int)) h1) (cj (o_set sz_ARat (site_14:List ARat) add h6) (cj (bs_addN h7) True.intro)))))))) (by kernel_rfl) hL
theorem l11(p q:List ARat)(t_17:Nat)(c:ARat)(site_14 tri:List ARat)(h1:(max p.length q.length)≤t_17)(h2:(max p.length q.length)=site_14.length)(h3:Contract prg 105 [(polyPV site_14)] (polyPV tri)):Loop1 p q t_17 c site_14 (polyPV tri) :=
 L.done mixed tabOk (n:=120) (ns:=[1,3,1]) (tr:=[.auto,.reg [],.dec false,.frzT 7 ((site_14:List ARat).map ARat.cells),.reg [.none,(.pv (polyPV tri))]]) (cj (dltN_f h1) (cj (o_frz sz_ARat (site_14:List ARat) h2) (cj h3 True.intro))) (by kernel_rfl)
end poly_plus
namespace poly_Sub
theorem e0(p q:List ARat)(of:ARat)(plu:List ARat)(h1:Contract prg 58 [(lpv (lcell ARat.cells) [p,q])] .nilI)(h2:Contract prg 29 [(vI (-1))] of.pv)(h3:Contract prg 118 [(polyPV p),(polyPV q),of.pv] (polyPV plu)):Contract prg 119 [(polyPV p),(polyPV q)] (.tup [(polyPV plu),.nilI]) :=
 Contract.ofL Tryz.func119 (by kernel_rfl) (L.done mixed tabOk (n:=93) (ns:=[3,1,1,1]) (tr:=[.reg [],.reg [.none,.none,(.slc 0 0 (([p,q]:List (List ARat)).map (lcell ARat.cells))),(.pv .nilI)],.reg [],.auto,.reg [.none,.none,(.pv of.pv),(.pv (polyPV plu))]]) (cj (o_bs (sz_l ARat.cells) ([p,q]:List (List ARat))) (cj h1 (cj h2 (cj h3 True.intro)))) (by kernel_rfl))
end poly_Sub
namespace poly_coefficient
theorem e0(p:List ARat)(i:Int)(k:Nat)(v:ARat)(h1:i<(p.length:Int))(h2:i=(k:Int))(h3:p[k]? = some v):Contract prg 147 [(polyPV p),(vI i)] v.pv :=
 Contract.ofL Tryz.func147 (by kernel_rfl) (L.done mixed tabOk (n:=84) (ns:=[1,1,3]) (tr:=[.reg [],.reg [.none,.none,(iI (p.length:Int))],.dec true,.reg [.none,.none,(.row k (ARat.cells v))]]) (cj (o_len ARat.cells p) (cj (dlt_t h1) (cj (o_at ARat.cells h2 h3) True.intro))) (by kernel_rfl))
theorem e1(p:List ARat)(i:Int)(h1:(p.length:Int)≤i):Contract prg 147 [(polyPV p),(vI i)] ((⟨false,[],[]⟩:ARat).pv) :=
 Contract.ofL Tryz.func147 (by kernel_rfl) (L.done mixed tabOk (n:=87) (ns:=[1,1]) (tr:=[.reg [],.reg [.none,.none,(iI (p.length:Int))],.dec false,.reg []]) (cj (o_len ARat.cells p) (cj (dlt_f h1) True.intro)) (by kernel_rfl))
end poly_coefficient
end Go.Proofs.YtboilcfohmmpbaaGreatDoor.Sym.Path
namespace Go.Proofs.YtboilcfohmmpbaaGreatDoor.Sym
open Go Path CInt
set_option linter.unusedVariables false
namespace CPo
theorem addZ(a:ARat)(h:FitR a):Contract prg 68 [a.pv,(⟨false,[],[]⟩:ARat).pv] (mkR a.val).pv:=by
 have hf:=CFr.Add a ⟨false,[],[]⟩ h ⟨by simp,by simp⟩
 rwa[val_nil (a:=⟨false,[],[]⟩) rfl,Rat.add_zero] at hf
theorem Trim2:∀(n:Nat) (q:List Rat),q.length=n→n<4611686018427387904→Fl 274877906944 q→poly_Trim.Loop2 (q.map mkR) (polyPV ((trimL q).map mkR)):=by
 intro n
 induction n with
 |zero =>
  intro q hq _ _
  have:q=[]:=List.eq_nil_of_length_eq_zero hq
  subst this
  exact poly_Trim.l22 [] (by simp)
 |succ n ih =>
  intro q hq hb hf
  obtain⟨v,hv⟩:∃v,q[n]? = some v:=⟨_,List.getElem?_eq_getElem (by omega)⟩
  have hs:=snoc_of hv hq
  have hm:(q.map mkR)[n]? = some (mkR v):=by rw[List.getElem?_map,hv];rfl
  have hv1:=hf v (List.mem_of_getElem? hv)
  have sg:=CFr.Sign (mkR v) (fit_mkR hv1)
  rw[mkR_val] at sg
  have hl:(q.map mkR).length=n+1:=by rw[List.length_map];exact hq
  by_cases h0:v=0
  ·refine poly_Trim.l20 (q.map mkR) n (mkR v) _ n (by omega) (by unfold InI64;omega) (by omega) (by omega) hm sg (cmpR_eq.2 h0) (by omega) (by omega) ?_
   have:=ih (q.take n) (by rw[List.length_take];omega) (by omega) (fun x hx=>hf x (List.mem_of_mem_take hx))
   rw[List.map_take] at this
   rw[hs,h0,trimL_zero]
   rw[←hs.symm,←h0,←hs] at *
   exact this
  ·rw[hs,trimL_ne h0,←hs]
   exact poly_Trim.l21 (q.map mkR) n (mkR v) _ (by omega) (by unfold InI64;omega) (by omega) (by omega) hm sg (fun e=>h0 (cmpR_eq.1 e))
theorem Trim(l:List ARat)(hl:l.length≤1099511627776)(hf:FitP 274877906944 l):Contract prg 105 [polyPV l] (polyPV ((trimL (vals l)).map mkR)):=by
 have loop:∀(j t:Nat) (site:List ARat),l.length-t=j→t≤l.length→site=(l.take t).map (fun a=>mkR a.val)→poly_Trim.Loop1 site l t (polyPV ((trimL (vals l)).map mkR)):=by
  intro j
  induction j with
  |zero =>
   intro t site hj ht hs
   have hte:t=l.length:=by omega
   subst hte
   refine poly_Trim.l11 site l _ (Nat.le_refl _) ?_
   rw[List.take_of_length_le (Nat.le_refl _)] at hs
   have:=Trim2 (vals l).length (vals l) rfl (by unfold vals;rw[List.length_map];omega) (fl_vals hf (by omega))
   have e:site=(vals l).map mkR:=by rw[hs];unfold vals;rw[List.map_map];rfl
   rw[e];exact this
  |succ j ih =>
   intro t site hj ht hs
   obtain⟨v,hv⟩:∃v,l[t]? = some v:=⟨_,List.getElem?_eq_getElem (by omega)⟩
   have ha:=addZ v (hf v (List.mem_of_getElem? hv))
   have hsl:site.length=t:=by rw[hs,List.length_map,List.length_take];omega
   refine poly_Trim.l10 site l t v _ (by omega) hv ha (by simp;omega) (by omega) (ih (t+1) _ (by omega) (by omega) ?_)
   rw[hs,List.take_add_one,hv];simp
 exact poly_Trim.e0 l (loop _ 0 [] rfl (by omega) rfl)
theorem Check1:∀(j:Nat) (p:List ARat) (t:Nat),p.length-t=j→t≤p.length→p.length≤65→FitP 274877906944 p→(p.take t).all ARat.valid=true →
  (p.all ARat.valid=false→poly_Check.Loop1 p t (.iface 61 (vI 2)))∧(p.all ARat.valid=true→lastZ (vals p)=true→poly_Check.Loop1 p t (.iface 61 (vI 8)))∧(p.all ARat.valid=true→lastZ (vals p)=false→poly_Check.Loop1 p t .nilI):=by
 intro j
 induction j with
 |zero =>
  intro p t hj ht hl hf hv
  have hte:t=p.length:=by omega
  subst hte
  rw[List.take_of_length_le (Nat.le_refl _)] at hv
  refine⟨fun h => ?_,fun _ hz => ?_,fun _ hz => ?_⟩
  ·rw[hv] at h;cases h
  ·obtain⟨v,h0,h1,h2⟩:=lastZ_true hz
   have sg:=CFr.Sign v (hf v (List.mem_of_getElem? h1))
   exact poly_Check.l12 p _ (p.length-1) v _ (Nat.le_refl _) h0 (by unfold InI64;omega) (by omega) h1 sg (cmpR_eq.2 h2)
  ·by_cases h0:p.length=0
   ·exact poly_Check.l14 p _ (Nat.le_refl _) (by omega)
   ·obtain⟨v,h1,h2⟩:=lastZ_false hz h0
    have sg:=CFr.Sign v (hf v (List.mem_of_getElem? h1))
    exact poly_Check.l13 p _ (p.length-1) v _ (Nat.le_refl _) (by omega) (by unfold InI64;omega) (by omega) h1 sg (fun e=>h2 (cmpR_eq.1 e))
 |succ j ih =>
  intro p t hj ht hl hf hv
  obtain⟨v,h1⟩:∃v,p[t]? = some v:=⟨_,List.getElem?_eq_getElem (by omega)⟩
  have hva:=CFr.Valid v (hf v (List.mem_of_getElem? h1))
  cases hc:v.valid with
  |false =>
   have hall:p.all ARat.valid=false:=by
    rw[List.all_eq_false]
    exact⟨v,List.mem_of_getElem? h1,by rw[hc];simp⟩
   refine⟨fun _=>poly_Check.l10 p t v _ (by omega) h1 hva hc,fun h => ?_,fun h => ?_⟩
   ·rw[hall] at h;cases h
   ·rw[hall] at h;cases h
  |true =>
   obtain⟨g1,g2,g3⟩:=ih p (t+1) (by omega) (by omega) hl hf (by rw[List.take_add_one,h1];simp[hv,hc])
   exact⟨fun h=>poly_Check.l11 p t v _ (by omega) h1 hva hc (by omega) (g1 h),fun h h'=>poly_Check.l11 p t v _ (by omega) h1 hva hc (by omega) (g2 h h'),fun h h'=>poly_Check.l11 p t v _ (by omega) h1 hva hc (by omega) (g3 h h')⟩
theorem Check(p:List ARat)(hf:FitP 274877906944 p):Contract prg 46 [polyPV p] (errPV (errOf (chk p))):=by
 unfold chk
 by_cases hl:p.length≤65
 ·rw[if_neg (by omega)]
  obtain⟨g1,g2,g3⟩:=Check1 _ p 0 rfl (by omega) hl hf (by simp)
  cases hv:p.all ARat.valid with
  |false=>exact poly_Check.e1 p hl (g1 hv)
  |true =>
   cases hz:lastZ (vals p) with
   |true=>exact poly_Check.e1 p hl (g2 hv hz)
   |false=>exact poly_Check.e1 p hl (g3 hv hz)
 ·rw[if_pos (by omega)]
  exact poly_Check.e0 p (by omega)
theorem derive(p:List ARat)(hl:p.length≤65)(hp:FitP 137438953472 p):Contract prg 74 [polyPV p] (polyPV ((deriveL (vals p)).map mkR)):=by
 have loop:∀(j i:Nat) (site:List ARat),p.length-i=j→1≤i→site=(derI 1 (((vals p).take i).drop 1)).map mkR→poly_derive.Loop1 p site i (polyPV ((deriveL (vals p)).map mkR)):=by
  intro j
  induction j with
  |zero =>
   intro i site hj h1 hs
   rw[List.take_of_length_le (by unfold vals;rw[List.length_map];omega)] at hs
   have hfit:Fl 274877906944 (derI 1 ((vals p).drop 1)):=fl_derI (k:=137438953472) (by omega) _ 1 (by unfold vals;simp;omega) (fun y hy=>fl_vals hp (by omega) y (List.mem_of_mem_drop hy))
   have ht:=Trim site (by rw[hs,List.length_map,derI_len];unfold vals;simp;omega) (by rw[hs];exact fit_map hfit)
   rw[hs,vals_mkR] at ht
   rw[hs]
   exact poly_derive.l11 p _ i _ (by omega) ht
  |succ j ih =>
   intro i site hj h1 hs
   obtain⟨v,hv⟩:∃v,p[i]? = some v:=⟨_,List.getElem?_eq_getElem (by omega)⟩
   have hvf:=hp v (List.mem_of_getElem? hv)
   have ho:=CFr.Of (i:Int) (by unfold InI64;omega)
   have b1:ht ((i:Int):Rat)≤2:=by
    rw[ht_int]
    have:wl (i:Int)≤2:=wl_le (by omega)
    omega
   have m:=CFr.Mul (mkR ((i:Int):Rat)) v (fit_mkR (by omega)) ⟨by omega,by omega⟩
   rw[mkR_val] at m
   have hsl:site.length=i-1:=by rw[hs,List.length_map,derI_len];unfold vals;simp;omega
   refine poly_derive.l10 p site i _ v _ (by omega) ho hv m (by simp;omega) (by omega) (ih (i+1) _ (by omega) (by omega) ?_)
   rw[hs,derI_take hv h1]
   simp
 exact poly_derive.e0 p (loop _ 1 [] rfl (by omega) (by rw[show (((vals p).take 1).drop 1)=[] from by simp];rfl))
theorem Derive(p:List ARat)(hc:chk p=0)(hp:FitP 137438953472 p):Contract prg 48 [polyPV p] (.tup [polyPV ((deriveL (vals p)).map mkR),.nilI]):=by
 have hk:=Check p (fun a ha=>⟨by have:=(hp a ha).1;omega,by have:=(hp a ha).2;omega⟩)
 rw[hc] at hk
 exact poly_Derive.e0 p _ hk (derive p (chk_len hc) hp)
end CPo
end Go.Proofs.YtboilcfohmmpbaaGreatDoor.Sym
namespace Go.Proofs.YtboilcfohmmpbaaGreatDoor.Sym.Path
open Go
set_option maxRecDepth 20000
set_option linter.unusedVariables false
namespace linkworkref05_Same
theorem e0(p q:List ARat)(rat:Bool)(h1:Contract prg 56 [(polyPV p),(polyPV q)] (vB rat)):Contract prg 39 [(polyPV p),(polyPV q)] (vB rat) :=
 Contract.ofL Tryz.func39 (by kernel_rfl) (L.done mixed tabOk (n:=72) (ns:=[1]) (tr:=[.reg [],.reg [.none,.none,(.pv (vB rat))]]) (cj h1 True.intro) (by kernel_rfl))
end linkworkref05_Same
namespace linkworkref05_Check
@[reducible] noncomputable def fn:Func:=Tryz.f40
noncomputable def atK1:List Itm:=focus [0,2,0,0,2,1,2,0,0,2,0,0] [.code (bodyOf fn)]
def inv1(p:List ARat)(t_10:Nat):St:=⟨[(0,(.pv (polyPV p))),(8,(.pv (polyPV p))),(9,(eI (p.length:Int))),(10,(eI (t_10:Int)))],[]⟩
@[reducible] noncomputable def Loop1(p:List ARat)(t_10:Nat)(r:PV):Prop:=L prg fn atK1 (inv1 p t_10) r
theorem e0(p:List ARat)(h1:65<p.length):Contract prg 40 [(polyPV p)] (vI 4) :=
 Contract.ofL Tryz.func40 (by kernel_rfl) (L.done mixed tabOk (n:=84) (ns:=[1,1]) (tr:=[.reg [],.reg [.none,(iI (p.length:Int))],.dec true,.reg []]) (cj (o_len ARat.cells p) (cj (dltN_t h1) True.intro)) (by kernel_rfl))
theorem e1(p:List ARat){r:PV}(h1:p.length≤65)(hL:Loop1 p 0 r):Contract prg 40 [(polyPV p)] r :=
 Contract.ofL Tryz.func40 (by kernel_rfl) (L.go mixed tabOk (n:=96) (ns:=[1,1,1]) (tr:=[.reg [],.reg [.none,(iI (p.length:Int))],.dec false,.reg [.none,(iI (p.length:Int))],.keep [0,8,9,10]]) (cj (o_len ARat.cells p) (cj (dltN_f h1) (cj (o_len ARat.cells p) True.intro))) (by kernel_rfl) hL)
theorem l10(p:List ARat)(t_10:Nat)(v:ARat)(val:Bool)(h1:t_10<p.length)(h2:p[t_10]? = some v)(h3:Contract prg 92 [v.pv] (vB val))(h4:val=false):Loop1 p t_10 (vI 2) :=
 L.done mixed tabOk (n:=141) (ns:=[1,3,1,1]) (tr:=[.auto,.reg [],.dec true,.reg [(.row t_10 (ARat.cells v))],.reg [.none,(.pv (vB val))],.dec true,.reg []]) (cj (dltN_t h1) (cj (o_at ARat.cells (Eq.refl (((t_10:Nat):Int):Int)) h2) (cj h3 (cj (bnot_t h4) True.intro)))) (by kernel_rfl)
theorem l11(p:List ARat)(t_10:Nat)(v:ARat)(val:Bool){r:PV}(h1:t_10<p.length)(h2:p[t_10]? = some v)(h3:Contract prg 92 [v.pv] (vB val))(h4:val=true)(h5:(t_10+1)<9223372036854775808)(hL:Loop1 p (t_10+1) r):Loop1 p t_10 r :=
 L.go mixed tabOk (n:=144) (ns:=[1,3,1,1,1]) (tr:=[.auto,.reg [],.dec true,.reg [(.row t_10 (ARat.cells v))],.reg [.none,(.pv (vB val))],.dec false,.reg [(iI (((t_10+1):Nat):Int))],.keep [0,8,9,10],.drop [4]]) (cj (dltN_t h1) (cj (o_at ARat.cells (Eq.refl (((t_10:Nat):Int):Int)) h2) (cj h3 (cj (bnot_f h4) (cj (bs_addN h5) True.intro))))) (by kernel_rfl) hL
theorem l12(p:List ARat)(t_10 k:Nat)(v:ARat)(sig:Int)(h1:p.length≤t_10)(h2:0<p.length)(h3:InI64 ((p.length:Int)-1))(h4:((p.length:Int)-1)=(k:Int))(h5:p[k]? = some v)(h6:Contract prg 93 [v.pv] (vI sig))(h7:sig=0):Loop1 p t_10 (vI 8) :=
 L.done mixed tabOk (n:=141) (ns:=[1,1,1,1,1,1,1,1,1,3,1,1,1,1,1,1]) (tr:=[.auto,.reg [],.dec false,.reg [.none,(iI (p.length:Int)),.none,.none,.none,.none,(iI (p.length:Int)),(iI ((p.length:Int)-1)),(.row k (ARat.cells v)),.none,(.pv (vI sig)),.none,(.dec true)],.dec true,.reg []]) (cj (dltN_f h1) (cj (o_len ARat.cells p) (cj (dltN_t h2) (cj (dltN_t h2) (cj (dltN_t h2) (cj (o_len ARat.cells p) (cj (dltN_t h2) (cj (bs_sub h3) (cj (dltN_t h2) (cj (o_at ARat.cells h4 h5) (cj (dltN_t h2) (cj (dltN_t h2) (cj h6 (cj (dltN_t h2) (cj (dltN_t h2) (cj (deq_t h7) True.intro)))))))))))))))) (by kernel_rfl)
theorem l13(p:List ARat)(t_10 k:Nat)(v:ARat)(sig:Int)(h1:p.length≤t_10)(h2:0<p.length)(h3:InI64 ((p.length:Int)-1))(h4:((p.length:Int)-1)=(k:Int))(h5:p[k]? = some v)(h6:Contract prg 93 [v.pv] (vI sig))(h7:sig≠0):Loop1 p t_10 (vI 0) :=
 L.done mixed tabOk (n:=144) (ns:=[1,1,1,1,1,1,1,1,1,3,1,1,1,1,1,1]) (tr:=[.auto,.reg [],.dec false,.reg [.none,(iI (p.length:Int)),.none,.none,.none,.none,(iI (p.length:Int)),(iI ((p.length:Int)-1)),(.row k (ARat.cells v)),.none,(.pv (vI sig)),.none,(.dec true)],.dec false,.reg []]) (cj (dltN_f h1) (cj (o_len ARat.cells p) (cj (dltN_t h2) (cj (dltN_t h2) (cj (dltN_t h2) (cj (o_len ARat.cells p) (cj (dltN_t h2) (cj (bs_sub h3) (cj (dltN_t h2) (cj (o_at ARat.cells h4 h5) (cj (dltN_t h2) (cj (dltN_t h2) (cj h6 (cj (dltN_t h2) (cj (dltN_t h2) (cj (deq_f h7) True.intro)))))))))))))))) (by kernel_rfl)
theorem l14(p:List ARat)(t_10:Nat)(h1:p.length≤t_10)(h2:p.length≤0):Loop1 p t_10 (vI 0) :=
 L.done mixed tabOk (n:=144) (ns:=[1,1,1,1,1,1,1,1,1,1,1]) (tr:=[.auto,.reg [],.dec false,.reg [.none,(iI (p.length:Int)),.none,.none,.skip,.skip,.skip,.skip,.skip,.skip,.skip,.skip,(.dec false)],.auto,.reg []]) (cj (dltN_f h1) (cj (o_len ARat.cells p) (cj (dltN_f h2) (cj (dltN_f h2) (cj (dltN_f h2) (cj (dltN_f h2) (cj (dltN_f h2) (cj (dltN_f h2) (cj (dltN_f h2) (cj (dltN_f h2) (cj (dltN_f h2) True.intro))))))))))) (by kernel_rfl)
end linkworkref05_Check
namespace linkworkref05_Gcd
theorem e1(p q:List ARat)(bot:Int)(gcd:List ARat)(h1:Contract prg 120 [(polyPV p),(polyPV q)] (vI bot))(h2:bot=0)(h3:Contract prg 121 [(polyPV p),(polyPV q)] (polyPV gcd)):Contract prg 84 [(polyPV p),(polyPV q)] (.tup [(polyPV gcd),(vI 0)]) :=
 Contract.ofL Tryz.func84 (by kernel_rfl) (L.done mixed tabOk (n:=93) (ns:=[1,1,1]) (tr:=[.reg [],.reg [.none,.none,(.pv (vI bot))],.reg [],.dec false,.reg [.none,.none,(.pv (polyPV gcd))]]) (cj h1 (cj (dne_f h2) (cj h3 True.intro))) (by kernel_rfl))
end linkworkref05_Gcd
namespace linkworkref05_Div
theorem e2(p q:List ARat)(bot:Int)(div div1:List ARat)(h1:Contract prg 120 [(polyPV p),(polyPV q)] (vI bot))(h2:bot=0)(h3:q.length≠0)(h4:Contract prg 122 [(polyPV p),(polyPV q)] (.tup [(polyPV div),(polyPV div1)])):Contract prg 85 [(polyPV p),(polyPV q)] (.tup [(polyPV div),(polyPV div1),(vI 0)]) :=
 Contract.ofL Tryz.func85 (by kernel_rfl) (L.done mixed tabOk (n:=114) (ns:=[1,1,1,1,1]) (tr:=[.reg [],.reg [.none,.none,(.pv (vI bot))],.reg [],.dec false,.reg [.none,(iI (q.length:Int))],.dec false,.reg [.none,.none,(.pv (.tup [(polyPV div),(polyPV div1)]))],.reg []]) (cj h1 (cj (dne_f h2) (cj (o_len ARat.cells q) (cj (deqN_f h3) (cj h4 True.intro))))) (by kernel_rfl))
end linkworkref05_Div
namespace linkworkref05_Scale
theorem e1(p:List ARat)(c:ARat)(che:Int)(plu:List ARat)(h1:Contract prg 40 [(polyPV p)] (vI che))(h2:che=0)(h3:Contract prg 124 [(polyPV []),(polyPV p),c.pv,(vI 0)] (polyPV plu)):Contract prg 87 [(polyPV p),c.pv] (.tup [(polyPV plu),(vI 0)]) :=
 Contract.ofL Tryz.func87 (by kernel_rfl) (L.done mixed tabOk (n:=93) (ns:=[1,1,1]) (tr:=[.reg [],.reg [.none,(.pv (vI che))],.reg [],.dec false,.reg [.none,.none,(.pv (polyPV plu))]]) (cj h1 (cj (dne_f h2) (cj h3 True.intro))) (by kernel_rfl))
end linkworkref05_Scale
namespace linkworkref05_Mul
theorem e1(p q:List ARat)(bot:Int)(tim lim:List ARat)(lim1:Int)(h1:Contract prg 120 [(polyPV p),(polyPV q)] (vI bot))(h2:bot=0)(h3:Contract prg 126 [(polyPV p),(polyPV q)] (polyPV tim))(h4:Contract prg 125 [(polyPV tim)] (.tup [(polyPV lim),(vI lim1)])):Contract prg 89 [(polyPV p),(polyPV q)] (.tup [(polyPV lim),(vI lim1)]) :=
 Contract.ofL Tryz.func89 (by kernel_rfl) (L.done mixed tabOk (n:=93) (ns:=[1,1,1,1]) (tr:=[.reg [],.reg [.none,.none,(.pv (vI bot))],.reg [],.dec false,.reg [.none,.none,(.pv (polyPV tim)),(.pv (.tup [(polyPV lim),(vI lim1)]))]]) (cj h1 (cj (dne_f h2) (cj h3 (cj h4 True.intro)))) (by kernel_rfl))
end linkworkref05_Mul
namespace linkworkref05_Add
theorem e1(p q:List ARat)(bot:Int)(of:ARat)(plu:List ARat)(h1:Contract prg 120 [(polyPV p),(polyPV q)] (vI bot))(h2:bot=0)(h3:Contract prg 27 [(vI 1)] of.pv)(h4:Contract prg 124 [(polyPV p),(polyPV q),of.pv,(vI 0)] (polyPV plu)):Contract prg 90 [(polyPV p),(polyPV q)] (.tup [(polyPV plu),(vI 0)]) :=
 Contract.ofL Tryz.func90 (by kernel_rfl) (L.done mixed tabOk (n:=93) (ns:=[1,1,1,1]) (tr:=[.reg [],.reg [.none,.none,(.pv (vI bot))],.reg [],.dec false,.reg [.none,.none,(.pv of.pv),(.pv (polyPV plu))]]) (cj h1 (cj (dne_f h2) (cj h3 (cj h4 True.intro)))) (by kernel_rfl))
end linkworkref05_Add
namespace linkworkref05_both
theorem e0(p q:List ARat)(che:Int)(h1:Contract prg 40 [(polyPV p)] (vI che))(h2:che≠0):Contract prg 120 [(polyPV p),(polyPV q)] (vI che) :=
 Contract.ofL Tryz.func120 (by kernel_rfl) (L.done mixed tabOk (n:=90) (ns:=[1,1]) (tr:=[.reg [],.reg [.none,(.pv (vI che))],.reg [],.dec true,.reg []]) (cj h1 (cj (dne_t h2) True.intro)) (by kernel_rfl))
theorem e1(p q:List ARat)(che che1:Int)(h1:Contract prg 40 [(polyPV p)] (vI che))(h2:che=0)(h3:Contract prg 40 [(polyPV q)] (vI che1)):Contract prg 120 [(polyPV p),(polyPV q)] (vI che1) :=
 Contract.ofL Tryz.func120 (by kernel_rfl) (L.done mixed tabOk (n:=93) (ns:=[1,1,1]) (tr:=[.reg [],.reg [.none,(.pv (vI che))],.reg [],.dec false,.reg [.none,(.pv (vI che1))]]) (cj h1 (cj (dne_f h2) (cj h3 True.intro))) (by kernel_rfl))
end linkworkref05_both
namespace linkworkref05_gcd
@[reducible] noncomputable def fn:Func:=Tryz.f121
noncomputable def atK1:List Itm:=focus [0,2,0,2,0,0,0] [.code (bodyOf fn)]
def inv1(p_0 q_1:List ARat):St:=⟨[(0,(.pv (polyPV p_0))),(1,(.pv (polyPV q_1)))],[]⟩
@[reducible] noncomputable def Loop1(p_0 q_1:List ARat)(r:PV):Prop:=L prg fn atK1 (inv1 p_0 q_1) r
theorem e0(p q mon mon1:List ARat){r:PV}(h1:Contract prg 148 [(polyPV p)] (polyPV mon))(h2:Contract prg 148 [(polyPV q)] (polyPV mon1))(hL:Loop1 mon mon1 r):Contract prg 121 [(polyPV p),(polyPV q)] r :=
 Contract.ofL Tryz.func121 (by kernel_rfl) (L.go mixed tabOk (n:=81) (ns:=[1,1]) (tr:=[.reg [],.reg [.none,(.pv (polyPV mon)),.none,(.pv (polyPV mon1))],.keep [0,1]]) (cj h1 (cj h2 True.intro)) (by kernel_rfl) hL)
theorem l10(p_0 q_1 div div1 mon:List ARat){r:PV}(h1:0<q_1.length)(h2:Contract prg 122 [(polyPV p_0),(polyPV q_1)] (.tup [(polyPV div),(polyPV div1)]))(h3:Contract prg 148 [(polyPV div1)] (polyPV mon))(hL:Loop1 q_1 mon r):Loop1 p_0 q_1 r :=
 L.go mixed tabOk (n:=114) (ns:=[1,1,1,1]) (tr:=[.auto,.reg [.none,(iI (q_1.length:Int))],.dec true,.reg [.none,.none,(.pv (.tup [(polyPV div),(polyPV div1)]))],.reg [.none,.none,(.pv (polyPV mon))],.keep [0,1]]) (cj (o_len ARat.cells q_1) (cj (dltN_t h1) (cj h2 (cj h3 True.intro)))) (by kernel_rfl) hL
theorem l11(p_0 q_1:List ARat)(h1:q_1.length≤0):Loop1 p_0 q_1 (polyPV p_0) :=
 L.done mixed tabOk (n:=114) (ns:=[1,1]) (tr:=[.auto,.reg [.none,(iI (q_1.length:Int))],.dec false,.reg []]) (cj (o_len ARat.cells q_1) (cj (dltN_f h1) True.intro)) (by kernel_rfl)
end linkworkref05_gcd
namespace linkworkref05_divide
@[reducible] noncomputable def fn:Func:=Tryz.f122
noncomputable def atK1:List Itm:=focus [0,2,0,2,0,2,0,0,0] [.code (bodyOf fn)]
def inv1(q out_6 rest_7:List ARat):St:=⟨[(1,(.pv (polyPV q))),(6,(.pv (polyPV out_6))),(7,(.pv (polyPV rest_7)))],[]⟩
@[reducible] noncomputable def Loop1(q out_6 rest_7:List ARat)(r:PV):Prop:=L prg fn atK1 (inv1 q out_6 rest_7) r
theorem e0(p q tri:List ARat){r:PV}(h1:Contract prg 123 [(polyPV p)] (polyPV tri))(hL:Loop1 q [] tri r):Contract prg 122 [(polyPV p),(polyPV q)] r :=
 Contract.ofL Tryz.func122 (by kernel_rfl) (L.go mixed tabOk (n:=87) (ns:=[1]) (tr:=[.reg [],.reg [],.reg [.none,(.pv (polyPV tri))],.keep [1,6,7]]) (cj h1 True.intro) (by kernel_rfl) hL)
theorem l10(q out_6 rest_7:List ARat)(k:Nat)(v:ARat)(k1:Nat)(v1 div:ARat)(div1:Int)(of:ARat)(plu:List ARat)(neg:ARat)(plu1:List ARat){r:PV}(h1:q.length≤rest_7.length)(h2:InI64 ((rest_7.length:Int)-1))(h3:((rest_7.length:Int)-1)=(k:Int))(h4:rest_7[k]? = some v)(h5:InI64 ((q.length:Int)-1))(h6:((q.length:Int)-1)=(k1:Int))(h7:q[k1]? = some v1)(h8:Contract prg 54 [v.pv,v1.pv] (.tup [div.pv,(vI div1)]))(h9:InI64 ((rest_7.length:Int)-(q.length:Int)))(h10:Contract prg 27 [(vI 1)] of.pv)(h11:Contract prg 124 [(polyPV out_6),(polyPV [div]),of.pv,(vI ((rest_7.length:Int)-(q.length:Int)))] (polyPV plu))(h12:Contract prg 55 [div.pv] neg.pv)(h13:Contract prg 124 [(polyPV rest_7),(polyPV q),neg.pv,(vI ((rest_7.length:Int)-(q.length:Int)))] (polyPV plu1))(hL:Loop1 q plu plu1 r):Loop1 q out_6 rest_7 r :=
 L.go mixed tabOk (n:=132) (ns:=[1,1,1,1,1,3,1,1,3,1,1,1,1,3,1,1,1,1]) (tr:=[.auto,.reg [.none,(iI (rest_7.length:Int)),.none,(iI (q.length:Int))],.dec true,dr 18 1 [.none,.none,(iI (rest_7.length:Int)),(iI ((rest_7.length:Int)-1)),(.row k (ARat.cells v)),.none,.none,.none,(iI (q.length:Int)),(iI ((q.length:Int)-1)),(.row k1 (ARat.cells v1)),.none,(.pv (.tup [div.pv,(vI div1)]))],.reg [.none,(iI (rest_7.length:Int)),.none,(iI (q.length:Int)),(iI ((rest_7.length:Int)-(q.length:Int)))],dr 6 1 [.none,.none,(.slc 0 0 (([div]:List ARat).map ARat.cells)),(.pv of.pv),.none,(.pv (polyPV plu))],.reg [.none,.none,.none,(.pv neg.pv),.none,(.pv (polyPV plu1))],.keep [1,6,7],.drop [8]]) (cj (o_len ARat.cells rest_7) (cj (o_len ARat.cells q) (cj (dleN_t h1) (cj (o_len ARat.cells rest_7) (cj (bs_sub h2) (cj (o_at ARat.cells h3 h4) (cj (o_len ARat.cells q) (cj (bs_sub h5) (cj (o_at ARat.cells h6 h7) (cj h8 (cj (o_len ARat.cells rest_7) (cj (o_len ARat.cells q) (cj (bs_sub h9) (cj (o_bs sz_ARat ([div]:List ARat)) (cj h10 (cj h11 (cj h12 (cj h13 True.intro)))))))))))))))))) (by kernel_rfl) hL
theorem l11(q out_6 rest_7:List ARat)(h1:rest_7.length<q.length):Loop1 q out_6 rest_7 (.tup [(polyPV out_6),(polyPV rest_7)]) :=
 L.done mixed tabOk (n:=120) (ns:=[1,1,1]) (tr:=[.auto,.reg [.none,(iI (rest_7.length:Int)),.none,(iI (q.length:Int))],.dec false,.reg []]) (cj (o_len ARat.cells rest_7) (cj (o_len ARat.cells q) (cj (dleN_f h1) True.intro))) (by kernel_rfl)
end linkworkref05_divide
namespace linkworkref05_Trim
@[reducible] noncomputable def fn:Func:=Tryz.f123
noncomputable def atK1:List Itm:=focus [0,2,0,2,0,0,2,0,0] [.code (bodyOf fn)]
def inv1(site_17 l:List ARat)(t_8:Nat):St:=⟨[(3,(.row 17 0 site_17.length 3)),(6,(.pv (polyPV l))),(7,(eI (l.length:Int))),(8,(eI (t_8:Int)))],[(17,(.pure ((site_17:List ARat).map ARat.cells).flatten))]⟩
@[reducible] noncomputable def Loop1(site_17 l:List ARat)(t_8:Nat)(r:PV):Prop:=L prg fn atK1 (inv1 site_17 l t_8) r
noncomputable def atK2:List Itm:=focus [0,2,0,2,0,0,2,0,0,0,0,2,0,1,2,2,2,2,0,0,0] [.code (bodyOf fn)]
def inv2(site_17:List ARat):St:=⟨[(3,(.row 17 0 site_17.length 3))],[(17,(.pure ((site_17:List ARat).map ARat.cells).flatten))]⟩
@[reducible] noncomputable def Loop2(site_17:List ARat)(r:PV):Prop:=L prg fn atK2 (inv2 site_17) r
theorem e0 (l : List ARat) {r : PV}  (hL : Loop1 [] l 0 r) : Contract prg 123 [(polyPV l)] r :=
 Contract.ofL Tryz.func123 (by kernel_rfl) (L.go mixed tabOk (n:=87) (ns:=[1]) (tr:=[.reg [],.reg [.nil],.adopt 3 17 3,.reg [.none,(iI (l.length:Int))],.keep [3,6,7,8]]) (cj (o_len ARat.cells l) True.intro) (by kernel_rfl) hL)
theorem l10(site_17 l:List ARat)(t_8:Nat)(v add:ARat){r:PV}(h1:t_8<l.length)(h2:l[t_8]? = some v)(h3:Contract prg 134 [v.pv,(⟨false,[],[]⟩:ARat).pv] add.pv)(h4:((site_17++[add]):List ARat).length*56≤140737488355328)(h5:(t_8+1)<9223372036854775808)(hL:Loop1 (site_17++[add]) l (t_8+1) r):Loop1 site_17 l t_8 r :=
 L.go mixed tabOk (n:=126) (ns:=[1,3,1,6,1]) (tr:=[.auto,.reg [],.dec true,.reg [(.row t_8 (ARat.cells v))],.reg [.none,.none,.none,(.pv add.pv),.none,(.app ((site_17++[add]):List ARat).length (((site_17++[add]):List ARat).map ARat.cells).flatten)],.reg [(iI (((t_8+1):Nat):Int))],.keep [3,6,7,8],.drop [16,5]]) (cj (dltN_t h1) (cj (o_at ARat.cells (Eq.refl (((t_8:Nat):Int):Int)) h2) (cj h3 (cj (o_appR sz_ARat (site_17:List ARat) ([add]:List ARat) 56 (Eq.refl (site_17:List ARat).length) (Eq.refl ([add]:List ARat).length) h4 rfl) (cj (bs_addN h5) True.intro))))) (by kernel_rfl) hL
theorem l11(site_17 l:List ARat)(t_8:Nat){r:PV}(h1:l.length≤t_8)(hL:Loop2 site_17 r):Loop1 site_17 l t_8 r :=
 L.go mixed tabOk (n:=123) (ns:=[1]) (tr:=[.auto,.reg [],.dec false,.keep [3]]) (cj (dltN_f h1) True.intro) (by kernel_rfl) hL
theorem l20(site_17:List ARat)(k:Nat)(v:ARat)(sig:Int)(u:Nat){r:PV}(h1:0<site_17.length)(h2:InI64 ((site_17.length:Int)-1))(h3:((site_17.length:Int)-1)=(k:Int))(h4:k<site_17.length)(h5:site_17[k]? = some v)(h6:Contract prg 93 [v.pv] (vI sig))(h7:sig=0)(h8:((site_17.length:Int)-1)=(u:Int))(h9:u≤(site_17:List ARat).length)(hL:Loop2 (site_17.take u) r):Loop2 site_17 r :=
 L.go mixed tabOk (n:=150) (ns:=[1,1,1,1,1,1,2,1,2,1,1,1,1,1,1,5,1]) (tr:=[.auto,.reg [.none,.none,.none,.none,.none,.none,.none,(iI ((site_17.length:Int)-1)),(.nat k),(.seg [(vB v.neg),(wordsPV v.num),(wordsPV v.den)]),(.pv (vI sig)),.none,(.dec true)],.dec true,.reg [.none,.none,.none,(iI ((site_17.length:Int)-1)),(.slc 0 ((site_17.take u).length) [])],.cut 17 (u*3) (((site_17.take u):List ARat).map ARat.cells).flatten,.keep [3]]) (cj (dltN_t h1) (cj (dltN_t h1) (cj (dltN_t h1) (cj (dltN_t h1) (cj (bs_sub h2) (cj (dltN_t h1) (cj (cj h3 h4) (cj (dltN_t h1) (cj (o_seg sz_ARat h5) (cj (dltN_t h1) (cj h6 (cj (dltN_t h1) (cj (dltN_t h1) (cj (deq_t h7) (cj (bs_sub h2) (cj (o_sr0 (site_17:List ARat) h8 h9) (cj (o_cut sz_ARat (site_17:List ARat) u) True.intro))))))))))))))))) (by kernel_rfl) hL
theorem l21(site_17:List ARat)(k:Nat)(v:ARat)(sig:Int)(h1:0<site_17.length)(h2:InI64 ((site_17.length:Int)-1))(h3:((site_17.length:Int)-1)=(k:Int))(h4:k<site_17.length)(h5:site_17[k]? = some v)(h6:Contract prg 93 [v.pv] (vI sig))(h7:sig≠0):Loop2 site_17 (polyPV site_17) :=
 L.done mixed tabOk (n:=156) (ns:=[1,1,1,1,1,1,2,1,2,1,1,1,1,1,3]) (tr:=[.auto,.reg [.none,.none,.none,.none,.none,.none,.none,(iI ((site_17.length:Int)-1)),(.nat k),(.seg [(vB v.neg),(wordsPV v.num),(wordsPV v.den)]),(.pv (vI sig)),.none,(.dec true)],.dec false,.reg [],.frzT 2 ((site_17:List ARat).map ARat.cells)]) (cj (dltN_t h1) (cj (dltN_t h1) (cj (dltN_t h1) (cj (dltN_t h1) (cj (bs_sub h2) (cj (dltN_t h1) (cj (cj h3 h4) (cj (dltN_t h1) (cj (o_seg sz_ARat h5) (cj (dltN_t h1) (cj h6 (cj (dltN_t h1) (cj (dltN_t h1) (cj (deq_f h7) (cj (o_frz sz_ARat (site_17:List ARat) (Eq.refl (site_17:List ARat).length)) True.intro))))))))))))))) (by kernel_rfl)
theorem l22(site_17:List ARat)(h1:site_17.length≤0):Loop2 site_17 (polyPV site_17) :=
 L.done mixed tabOk (n:=156) (ns:=[1,1,1,1,1,1,1,1,1,3]) (tr:=[.auto,.reg [.none,.none,.none,.none,.skip,.skip,.skip,.skip,.skip,.skip,.skip,.skip,(.dec false)],.auto,.reg [],.frzT 2 ((site_17:List ARat).map ARat.cells)]) (cj (dltN_f h1) (cj (dltN_f h1) (cj (dltN_f h1) (cj (dltN_f h1) (cj (dltN_f h1) (cj (dltN_f h1) (cj (dltN_f h1) (cj (dltN_f h1) (cj (dltN_f h1) (cj (o_frz sz_ARat (site_17:List ARat) (Eq.refl (site_17:List ARat).length)) True.intro)))))))))) (by kernel_rfl)
end linkworkref05_Trim
namespace linkworkref05_plus
@[reducible] noncomputable def fn:Func:=Tryz.f124
noncomputable def atK1:List Itm:=focus [0,2,0,2,0,2,0,0,2,0,0] [.code (bodyOf fn)]
def inv1(shift:Int)(m:Nat)(q:List ARat)(t_25:Nat)(c:ARat)(site_19:List ARat):St:=⟨[(3,(eI shift)),(6,(.ptr 6 0)),(9,(.row 19 0 m 3)),(23,(.pv (polyPV q))),(24,(eI (q.length:Int))),(25,(eI (t_25:Int)))],[(6,(.lit [(eB c.neg),(.pv (wordsPV c.num)),(.pv (wordsPV c.den))])),(19,(.pure ((site_19:List ARat).map ARat.cells).flatten))]⟩
@[reducible] noncomputable def Loop1(shift:Int)(m:Nat)(q:List ARat)(t_25:Nat)(c:ARat)(site_19:List ARat)(r:PV):Prop:=L prg fn atK1 (inv1 shift m q t_25 c site_19) r
theorem e0(p q:List ARat)(c:ARat)(shift:Int)(m:Nat){r:PV}(h1:InI64 ((q.length:Int)+shift))(h2:(max (p.length:Int) ((q.length:Int)+shift))=(m:Int))(h3:56*m≤140737488355328)(h4:(min p.length m)≤(List.replicate m (⟨false,[],[]⟩:ARat):List ARat).length)(hL:Loop1 shift m q 0 c (p.take (min p.length m)++(List.replicate m (⟨false,[],[]⟩:ARat)).drop (min p.length m)) r):Contract prg 124 [(polyPV p),(polyPV q),c.pv,(vI shift)] r :=
 Contract.ofL Tryz.func124 (by kernel_rfl) (L.go mixed tabOk (n:=93) (ns:=[1,1,1,1,5,4,1]) (tr:=[.reg [],.reg [.none,(iI (p.length:Int)),.none,(iI (q.length:Int)),.none,(iI ((q.length:Int)+shift)),(iI (max (p.length:Int) ((q.length:Int)+shift))),(.app m ((List.replicate m (⟨false,[],[]⟩:ARat):List ARat).map ARat.cells).flatten)],.reg [.none,.none,(.app (min p.length m) (((p.take (min p.length m)++(List.replicate m (⟨false,[],[]⟩:ARat)).drop (min p.length m)):List ARat).map ARat.cells).flatten)],.reg [.none,(iI (q.length:Int))],.keep [3,6,9,23,24,25],.ord [6,19]]) (cj (o_len ARat.cells p) (cj (o_len ARat.cells q) (cj (bs_add h1) (cj (o_maxI (p.length:Int) ((q.length:Int)+shift)) (cj (o_mk ARat.cells (⟨false,[],[]⟩:ARat) 56 m h2 h3 rfl) (cj (o_cpL sz_ARat (List.replicate m (⟨false,[],[]⟩:ARat):List ARat) (p:List ARat) (Eq.refl (min p.length m)) h4) (cj (o_len ARat.cells q) True.intro))))))) (by kernel_rfl) hL)
theorem l10(shift:Int)(m:Nat)(q:List ARat)(t_25:Nat)(c:ARat)(site_19:List ARat)(v:ARat)(k:Nat)(v1 mul add:ARat)(k1:Nat){r:PV}(h1:t_25<q.length)(h2:q[t_25]? = some v)(h3:InI64 ((t_25:Int)+shift))(h4:((t_25:Int)+shift)=(k:Int))(h5:k<m)(h6:site_19[k]? = some v1)(h7:Contract prg 97 [c.pv,v.pv] mul.pv)(h8:Contract prg 134 [v1.pv,mul.pv] add.pv)(h9:((t_25:Int)+shift)=(k1:Int))(h10:k1<m)(h11:k1<site_19.length)(h12:(t_25+1)<9223372036854775808)(hL:Loop1 shift m q (t_25+1) c (site_19.set k1 add) r):Loop1 shift m q t_25 c site_19 r :=
 L.go mixed tabOk (n:=132) (ns:=[1,3,1,1,2,2,1,1,2,2,1]) (tr:=[.auto,.reg [],.dec true,.reg [.none,(.row t_25 (ARat.cells v))],dr 15 1 [.none,.none,.none,(iI ((t_25:Int)+shift)),.none,.none,.none,(iI ((t_25:Int)+shift)),(.nat k),(.seg [(vB v1.neg),(wordsPV v1.num),(wordsPV v1.den)]),.none,.none,(.pv mul.pv),(.pv add.pv),(.nat k1),(.cells (.pure (((site_19.set k1 add):List ARat).map ARat.cells).flatten))],.reg [(iI (((t_25+1):Nat):Int))],.keep [3,6,9,23,24,25],.drop [11]]) (cj (dltN_t h1) (cj (o_at ARat.cells (Eq.refl (((t_25:Nat):Int):Int)) h2) (cj (bs_add h3) (cj (bs_add h3) (cj (cj h4 h5) (cj (o_seg sz_ARat h6) (cj h7 (cj h8 (cj (cj h9 h10) (cj (o_set sz_ARat (site_19:List ARat) add h11) (cj (bs_addN h12) True.intro))))))))))) (by kernel_rfl) hL
theorem l11(shift:Int)(m:Nat)(q:List ARat)(t_25:Nat)(c:ARat)(site_19 tri:List ARat)(h1:q.length≤t_25)(h2:m=site_19.length)(h3:Contract prg 123 [(polyPV site_19)] (polyPV tri)):Loop1 shift m q t_25 c site_19 (polyPV tri) :=
 L.done mixed tabOk (n:=126) (ns:=[1,3,1]) (tr:=[.auto,.reg [],.dec false,.frzT 9 ((site_19:List ARat).map ARat.cells),.reg [.none,(.pv (polyPV tri))]]) (cj (dltN_f h1) (cj (o_frz sz_ARat (site_19:List ARat) h2) (cj h3 True.intro))) (by kernel_rfl)
end linkworkref05_plus
namespace linkworkref05_limited
theorem e1(p:List ARat)(h1:p.length≤65):Contract prg 125 [(polyPV p)] (.tup [(polyPV p),(vI 0)]) :=
 Contract.ofL Tryz.func125 (by kernel_rfl) (L.done mixed tabOk (n:=87) (ns:=[1,1]) (tr:=[.reg [],.reg [.none,(iI (p.length:Int))],.dec false,.reg []]) (cj (o_len ARat.cells p) (cj (dltN_f h1) True.intro)) (by kernel_rfl))
end linkworkref05_limited
namespace linkworkref05_times
@[reducible] noncomputable def fn:Func:=Tryz.f126
noncomputable def atK1:List Itm:=focus [0,2,0,2,0,0,2,0,0] [.code (bodyOf fn)]
def inv1(q out_5 p:List ARat)(t_10:Nat):St:=⟨[(1,(.pv (polyPV q))),(5,(.pv (polyPV out_5))),(8,(.pv (polyPV p))),(9,(eI (p.length:Int))),(10,(eI (t_10:Int)))],[]⟩
@[reducible] noncomputable def Loop1(q out_5 p:List ARat)(t_10:Nat)(r:PV):Prop:=L prg fn atK1 (inv1 q out_5 p t_10) r
theorem e0 (p q : List ARat) {r : PV}  (hL : Loop1 q [] p 0 r) : Contract prg 126 [(polyPV p), (polyPV q)] r :=
 Contract.ofL Tryz.func126 (by kernel_rfl) (L.go mixed tabOk (n:=87) (ns:=[1]) (tr:=[.reg [],.reg [],.reg [.none,(iI (p.length:Int))],.keep [1,5,8,9,10]]) (cj (o_len ARat.cells p) True.intro) (by kernel_rfl) hL)
theorem l10(q out_5 p:List ARat)(t_10:Nat)(v:ARat)(plu:List ARat){r:PV}(h1:t_10<p.length)(h2:p[t_10]? = some v)(h3:Contract prg 124 [(polyPV out_5),(polyPV q),v.pv,(vI (t_10:Int))] (polyPV plu))(h4:(t_10+1)<9223372036854775808)(hL:Loop1 q plu p (t_10+1) r):Loop1 q out_5 p t_10 r :=
 L.go mixed tabOk (n:=126) (ns:=[1,3,1,1]) (tr:=[.auto,.reg [],.dec true,.reg [.none,(.row t_10 (ARat.cells v))],.reg [.none,.none,.none,.none,(.pv (polyPV plu))],.reg [(iI (((t_10+1):Nat):Int))],.keep [1,5,8,9,10],.drop [7]]) (cj (dltN_t h1) (cj (o_at ARat.cells (Eq.refl (((t_10:Nat):Int):Int)) h2) (cj h3 (cj (bs_addN h4) True.intro)))) (by kernel_rfl) hL
theorem l11(q out_5 p:List ARat)(t_10:Nat)(h1:p.length≤t_10):Loop1 q out_5 p t_10 (polyPV out_5) :=
 L.done mixed tabOk (n:=120) (ns:=[1]) (tr:=[.auto,.reg [],.dec false,.reg []]) (cj (dltN_f h1) True.intro) (by kernel_rfl)
end linkworkref05_times
namespace linkworkref05_monic
theorem e0(p:List ARat)(h1:p.length=0):Contract prg 148 [(polyPV p)] (polyPV []) :=
 Contract.ofL Tryz.func148 (by kernel_rfl) (L.done mixed tabOk (n:=84) (ns:=[1,1]) (tr:=[.reg [],.reg [.none,(iI (p.length:Int))],.dec true,.reg []]) (cj (o_len ARat.cells p) (cj (deqN_t h1) True.intro)) (by kernel_rfl))
theorem e1(p:List ARat)(of:ARat)(k:Nat)(v div:ARat)(div1:Int)(plu:List ARat)(h1:p.length≠0)(h2:Contract prg 27 [(vI 1)] of.pv)(h3:InI64 ((p.length:Int)-1))(h4:((p.length:Int)-1)=(k:Int))(h5:p[k]? = some v)(h6:Contract prg 54 [of.pv,v.pv] (.tup [div.pv,(vI div1)]))(h7:Contract prg 124 [(polyPV []),(polyPV p),div.pv,(vI 0)] (polyPV plu)):Contract prg 148 [(polyPV p)] (polyPV plu) :=
 Contract.ofL Tryz.func148 (by kernel_rfl) (L.done mixed tabOk (n:=93) (ns:=[1,1,1,1,1,3,1,1]) (tr:=[.reg [],.reg [.none,(iI (p.length:Int))],.dec false,dr 13 1 [(.pv of.pv),.none,.none,(iI (p.length:Int)),(iI ((p.length:Int)-1)),(.row k (ARat.cells v)),.none,(.pv (.tup [div.pv,(vI div1)]))],.reg [.none,.none,(.pv (polyPV plu))]]) (cj (o_len ARat.cells p) (cj (deqN_f h1) (cj h2 (cj (o_len ARat.cells p) (cj (bs_sub h3) (cj (o_at ARat.cells h4 h5) (cj h6 (cj h7 True.intro)))))))) (by kernel_rfl))
end linkworkref05_monic
end Go.Proofs.YtboilcfohmmpbaaGreatDoor.Sym.Path
namespace Go.Proofs.YtboilcfohmmpbaaGreatDoor.Sym
open Go Path CInt
set_option linter.unusedVariables false
namespace CRe
theorem addZ(a:ARat)(h:FitR a):Contract prg 134 [a.pv,(⟨false,[],[]⟩:ARat).pv] (mkR a.val).pv:=by
 have hf:=CRb.Add a ⟨false,[],[]⟩ h ⟨by simp,by simp⟩
 rwa[val_nil (a:=⟨false,[],[]⟩) rfl,Rat.add_zero] at hf
theorem Trim2:∀(n:Nat) (q:List Rat),q.length=n→n<4611686018427387904→Fl 274877906944 q→linkworkref05_Trim.Loop2 (q.map mkR) (polyPV ((trimL q).map mkR)):=by
 intro n
 induction n with
 |zero =>
  intro q hq _ _
  have:q=[]:=List.eq_nil_of_length_eq_zero hq
  subst this
  exact linkworkref05_Trim.l22 [] (by simp)
 |succ n ih =>
  intro q hq hb hf
  obtain⟨v,hv⟩:∃v,q[n]? = some v:=⟨_,List.getElem?_eq_getElem (by omega)⟩
  have hs:=snoc_of hv hq
  have hm:(q.map mkR)[n]? = some (mkR v):=by rw[List.getElem?_map,hv];rfl
  have hv1:=hf v (List.mem_of_getElem? hv)
  have sg:=CRb.Sign (mkR v) (fit_mkR hv1)
  rw[mkR_val] at sg
  have hl:(q.map mkR).length=n+1:=by rw[List.length_map];exact hq
  by_cases h0:v=0
  ·refine linkworkref05_Trim.l20 (q.map mkR) n (mkR v) _ n (by omega) (by unfold InI64;omega) (by omega) (by omega) hm sg (cmpR_eq.2 h0) (by omega) (by omega) ?_
   have:=ih (q.take n) (by rw[List.length_take];omega) (by omega) (fun x hx=>hf x (List.mem_of_mem_take hx))
   rw[List.map_take] at this
   rw[hs,h0,trimL_zero]
   rw[←hs.symm,←h0,←hs] at *
   exact this
  ·rw[hs,trimL_ne h0,←hs]
   exact linkworkref05_Trim.l21 (q.map mkR) n (mkR v) _ (by omega) (by unfold InI64;omega) (by omega) (by omega) hm sg (fun e=>h0 (cmpR_eq.1 e))
theorem Trim(l:List ARat)(hl:l.length≤1099511627776)(hf:FitP 274877906944 l):Contract prg 123 [polyPV l] (polyPV ((trimL (vals l)).map mkR)):=by
 have loop:∀(j t:Nat) (site:List ARat),l.length-t=j→t≤l.length→site=(l.take t).map (fun a=>mkR a.val)→linkworkref05_Trim.Loop1 site l t (polyPV ((trimL (vals l)).map mkR)):=by
  intro j
  induction j with
  |zero =>
   intro t site hj ht hs
   have hte:t=l.length:=by omega
   subst hte
   refine linkworkref05_Trim.l11 site l _ (Nat.le_refl _) ?_
   rw[List.take_of_length_le (Nat.le_refl _)] at hs
   have:=Trim2 (vals l).length (vals l) rfl (by unfold vals;rw[List.length_map];omega) (fl_vals hf (by omega))
   have e:site=(vals l).map mkR:=by rw[hs];unfold vals;rw[List.map_map];rfl
   rw[e];exact this
  |succ j ih =>
   intro t site hj ht hs
   obtain⟨v,hv⟩:∃v,l[t]? = some v:=⟨_,List.getElem?_eq_getElem (by omega)⟩
   have ha:=addZ v (hf v (List.mem_of_getElem? hv))
   have hsl:site.length=t:=by rw[hs,List.length_map,List.length_take];omega
   refine linkworkref05_Trim.l10 site l t v _ (by omega) hv ha (by simp;omega) (by omega) (ih (t+1) _ (by omega) (by omega) ?_)
   rw[hs,List.take_add_one,hv];simp
 exact linkworkref05_Trim.e0 l (loop _ 0 [] rfl (by omega) rfl)
theorem Check1:∀(j:Nat) (p:List ARat) (t:Nat),p.length-t=j→t≤p.length→p.length≤65→FitP 274877906944 p→(p.take t).all ARat.valid=true →
  (p.all ARat.valid=false→linkworkref05_Check.Loop1 p t (vI 2))∧(p.all ARat.valid=true→lastZ (vals p)=true→linkworkref05_Check.Loop1 p t (vI 8))∧(p.all ARat.valid=true→lastZ (vals p)=false→linkworkref05_Check.Loop1 p t (vI 0)):=by
 intro j
 induction j with
 |zero =>
  intro p t hj ht hl hf hv
  have hte:t=p.length:=by omega
  subst hte
  rw[List.take_of_length_le (Nat.le_refl _)] at hv
  refine⟨fun h => ?_,fun _ hz => ?_,fun _ hz => ?_⟩
  ·rw[hv] at h;cases h
  ·obtain⟨v,h0,h1,h2⟩:=lastZ_true hz
   have sg:=CRb.Sign v (hf v (List.mem_of_getElem? h1))
   exact linkworkref05_Check.l12 p _ (p.length-1) v _ (Nat.le_refl _) h0 (by unfold InI64;omega) (by omega) h1 sg (cmpR_eq.2 h2)
  ·by_cases h0:p.length=0
   ·exact linkworkref05_Check.l14 p _ (Nat.le_refl _) (by omega)
   ·obtain⟨v,h1,h2⟩:=lastZ_false hz h0
    have sg:=CRb.Sign v (hf v (List.mem_of_getElem? h1))
    exact linkworkref05_Check.l13 p _ (p.length-1) v _ (Nat.le_refl _) (by omega) (by unfold InI64;omega) (by omega) h1 sg (fun e=>h2 (cmpR_eq.1 e))
 |succ j ih =>
  intro p t hj ht hl hf hv
  obtain⟨v,h1⟩:∃v,p[t]? = some v:=⟨_,List.getElem?_eq_getElem (by omega)⟩
  have hva:=CRb.Valid v (hf v (List.mem_of_getElem? h1))
  cases hc:v.valid with
  |false =>
   have hall:p.all ARat.valid=false:=by
    rw[List.all_eq_false]
    exact⟨v,List.mem_of_getElem? h1,by rw[hc];simp⟩
   refine⟨fun _=>linkworkref05_Check.l10 p t v _ (by omega) h1 hva hc,fun h => ?_,fun h => ?_⟩
   ·rw[hall] at h;cases h
   ·rw[hall] at h;cases h
  |true =>
   obtain⟨g1,g2,g3⟩:=ih p (t+1) (by omega) (by omega) hl hf (by rw[List.take_add_one,h1];simp[hv,hc])
   exact⟨fun h=>linkworkref05_Check.l11 p t v _ (by omega) h1 hva hc (by omega) (g1 h),fun h h'=>linkworkref05_Check.l11 p t v _ (by omega) h1 hva hc (by omega) (g2 h h'),fun h h'=>linkworkref05_Check.l11 p t v _ (by omega) h1 hva hc (by omega) (g3 h h')⟩
theorem Check(p:List ARat)(hf:FitP 274877906944 p):Contract prg 40 [polyPV p] (vI (chk p)):=by
 unfold chk
 by_cases hl:p.length≤65
 ·rw[if_neg (by omega)]
  obtain⟨g1,g2,g3⟩:=Check1 _ p 0 rfl (by omega) hl hf (by simp)
  cases hv:p.all ARat.valid with
  |false=>exact linkworkref05_Check.e1 p hl (g1 hv)
  |true =>
   cases hz:lastZ (vals p) with
   |true=>exact linkworkref05_Check.e1 p hl (g2 hv hz)
   |false=>exact linkworkref05_Check.e1 p hl (g3 hv hz)
 ·rw[if_pos (by omega)]
  exact linkworkref05_Check.e0 p (by omega)
end CRe
end Go.Proofs.YtboilcfohmmpbaaGreatDoor.Sym
namespace Go.Proofs.YtboilcfohmmpbaaGreatDoor.Sym
open Go Path CInt
set_option linter.unusedVariables false
theorem drop_cons{α:Type}{l:List α}{t:Nat}{v:α}(h:l[t]? = some v):l.drop t=v::l.drop (t+1):=by
 obtain⟨h1,h2⟩:=List.getElem?_eq_some_iff.1 h
 rw[List.drop_eq_getElem_cons h1,h2]
theorem fitK{q:Rat}(h:ht q≤68719476736):FitR (mkR q):=fit_mkR (by omega)
namespace QF
theorem Add(p q:Rat)(hp:ht p≤68719476736)(hq:ht q≤68719476736):Contract prg 68 [(mkR p).pv,(mkR q).pv] (mkR (p+q)).pv:=by
 have h:=CFr.Add (mkR p) (mkR q) ⟨by have:=(fit_mkRk hp).1;omega,by have:=(fit_mkRk hp).2;omega⟩ ⟨by have:=(fit_mkRk hq).1;omega,by have:=(fit_mkRk hq).2;omega⟩
 rwa[mkR_val,mkR_val] at h
theorem Sub(p q:Rat)(hp:ht p≤68719476736)(hq:ht q≤68719476736):Contract prg 34 [(mkR p).pv,(mkR q).pv] (mkR (p-q)).pv:=by
 have h:=CFr.Sub (mkR p) (mkR q) ⟨by have:=(fit_mkRk hp).1;omega,by have:=(fit_mkRk hp).2;omega⟩ ⟨by have:=(fit_mkRk hq).1;omega,by have:=(fit_mkRk hq).2;omega⟩
 rwa[mkR_val,mkR_val] at h
theorem Mul(p q:Rat)(hp:ht p≤68719476736)(hq:ht q≤68719476736):Contract prg 25 [(mkR p).pv,(mkR q).pv] (mkR (p*q)).pv:=by
 have h:=CFr.Mul (mkR p) (mkR q) ⟨by have:=(fit_mkRk hp).1;omega,by have:=(fit_mkRk hp).2;omega⟩ ⟨by have:=(fit_mkRk hq).1;omega,by have:=(fit_mkRk hq).2;omega⟩
 rwa[mkR_val,mkR_val] at h
theorem Cmp(p q:Rat)(hp:ht p≤68719476736)(hq:ht q≤68719476736):Contract prg 24 [(mkR p).pv,(mkR q).pv] (vI (cmpR p q)):=by
 have h:=CFr.Cmp (mkR p) (mkR q) ⟨by have:=(fit_mkRk hp).1;omega,by have:=(fit_mkRk hp).2;omega⟩ ⟨by have:=(fit_mkRk hq).1;omega,by have:=(fit_mkRk hq).2;omega⟩
 rwa[mkR_val,mkR_val] at h
theorem Div(p q:Rat)(hp:ht p≤68719476736)(hq:ht q≤68719476736)(h0:q≠0):Contract prg 49 [(mkR p).pv,(mkR q).pv] (.tup [(mkR (p/q)).pv,.nilI]):=by
 have h:=CFr.Div (mkR p) (mkR q) (fitK hp) (fitK hq) (by rw[mkR_val];exact h0)
 rwa[mkR_val,mkR_val] at h
theorem Sign(p:Rat)(hp:ht p≤68719476736):Contract prg 31 [(mkR p).pv] (vI (cmpR p 0)):=by
 have h:=CFr.Sign (mkR p) (fitK hp)
 rwa[mkR_val] at h
theorem Neg(p:Rat)(hp:ht p≤68719476736):Contract prg 23 [(mkR p).pv] (mkR (-p)).pv:=by
 have h:=CFr.Neg (mkR p) (fitK hp)
 rwa[mkR_val] at h
theorem addZ(p:Rat)(hp:ht p≤68719476736):Contract prg 68 [(mkR p).pv,(⟨false,[],[]⟩:ARat).pv] (mkR p).pv:=by
 have h:=Add p 0 hp (by decide)
 rwa[Rat.add_zero] at h
end QF
namespace QR
theorem Add(p q:Rat)(hp:ht p≤68719476736)(hq:ht q≤68719476736):Contract prg 134 [(mkR p).pv,(mkR q).pv] (mkR (p+q)).pv:=by
 have h:=CRb.Add (mkR p) (mkR q) ⟨by have:=(fit_mkRk hp).1;omega,by have:=(fit_mkRk hp).2;omega⟩ ⟨by have:=(fit_mkRk hq).1;omega,by have:=(fit_mkRk hq).2;omega⟩
 rwa[mkR_val,mkR_val] at h
theorem Sub(p q:Rat)(hp:ht p≤68719476736)(hq:ht q≤68719476736):Contract prg 98 [(mkR p).pv,(mkR q).pv] (mkR (p-q)).pv:=by
 have h:=CRb.Sub (mkR p) (mkR q) ⟨by have:=(fit_mkRk hp).1;omega,by have:=(fit_mkRk hp).2;omega⟩ ⟨by have:=(fit_mkRk hq).1;omega,by have:=(fit_mkRk hq).2;omega⟩
 rwa[mkR_val,mkR_val] at h
theorem Mul(p q:Rat)(hp:ht p≤68719476736)(hq:ht q≤68719476736):Contract prg 97 [(mkR p).pv,(mkR q).pv] (mkR (p*q)).pv:=by
 have h:=CRb.Mul (mkR p) (mkR q) ⟨by have:=(fit_mkRk hp).1;omega,by have:=(fit_mkRk hp).2;omega⟩ ⟨by have:=(fit_mkRk hq).1;omega,by have:=(fit_mkRk hq).2;omega⟩
 rwa[mkR_val,mkR_val] at h
theorem Cmp(p q:Rat)(hp:ht p≤68719476736)(hq:ht q≤68719476736):Contract prg 91 [(mkR p).pv,(mkR q).pv] (vI (cmpR p q)):=by
 have h:=CRb.Cmp (mkR p) (mkR q) ⟨by have:=(fit_mkRk hp).1;omega,by have:=(fit_mkRk hp).2;omega⟩ ⟨by have:=(fit_mkRk hq).1;omega,by have:=(fit_mkRk hq).2;omega⟩
 rwa[mkR_val,mkR_val] at h
theorem Div(p q:Rat)(hp:ht p≤68719476736)(hq:ht q≤68719476736)(h0:q≠0):Contract prg 54 [(mkR p).pv,(mkR q).pv] (.tup [(mkR (p/q)).pv,vI 0]):=by
 have h:=CRb.Div (mkR p) (mkR q) (fitK hp) (fitK hq) (by rw[mkR_val];exact h0)
 rwa[mkR_val,mkR_val] at h
theorem Neg(p:Rat)(hp:ht p≤68719476736):Contract prg 55 [(mkR p).pv] (mkR (-p)).pv:=by
 have h:=CRb.Neg (mkR p) (fitK hp)
 rwa[mkR_val] at h
end QR
end Go.Proofs.YtboilcfohmmpbaaGreatDoor.Sym
namespace Go.Proofs.YtboilcfohmmpbaaGreatDoor.Sym.Path
open Go
set_option maxRecDepth 20000
set_option linter.unusedVariables false
namespace linkworkbase_Num
theorem e0   : Contract prg 18 [.nilI] (vI 0) :=
 Contract.ofL Tryz.func18 (by kernel_rfl) (L.done mixed tabOk (n:=84) (ns:=[]) (tr:=[.reg [],.reg [],.auto,.reg []]) True.intro (by kernel_rfl))
theorem e1 (e : Int)  : Contract prg 18 [(.iface 61 (vI e))] (vI e) :=
 Contract.ofL Tryz.func18 (by kernel_rfl) (L.done mixed tabOk (n:=108) (ns:=[]) (tr:=[.reg [],.reg [],.auto,.reg [],.reg [],.auto,.reg []]) True.intro (by kernel_rfl))
end linkworkbase_Num
namespace linkworkbase_Rats
@[reducible] noncomputable def fn:Func:=Tryz.f56
noncomputable def atK1:List Itm:=focus [0,2,0,0,2,1,2,0,0,2,0,0] [.code (bodyOf fn)]
def inv1(a b:List ARat)(i_5:Nat):St:=⟨[(0,(.pv (polyPV a))),(1,(.pv (polyPV b))),(5,(eI (i_5:Int)))],[]⟩
@[reducible] noncomputable def Loop1(a b:List ARat)(i_5:Nat)(r:PV):Prop:=L prg fn atK1 (inv1 a b i_5) r
theorem e0(a b:List ARat)(h1:a.length≠b.length):Contract prg 56 [(polyPV a),(polyPV b)] (vB false) :=
 Contract.ofL Tryz.func56 (by kernel_rfl) (L.done mixed tabOk (n:=84) (ns:=[1,1,1]) (tr:=[.reg [],.reg [.none,(iI (a.length:Int)),.none,(iI (b.length:Int))],.dec true,.reg []]) (cj (o_len ARat.cells a) (cj (o_len ARat.cells b) (cj (dneN_t h1) True.intro))) (by kernel_rfl))
theorem e1(a b:List ARat){r:PV}(h1:a.length=b.length)(hL:Loop1 a b 0 r):Contract prg 56 [(polyPV a),(polyPV b)] r :=
 Contract.ofL Tryz.func56 (by kernel_rfl) (L.go mixed tabOk (n:=96) (ns:=[1,1,1]) (tr:=[.reg [],.reg [.none,(iI (a.length:Int)),.none,(iI (b.length:Int))],.dec false,.reg [],.keep [0,1,5]]) (cj (o_len ARat.cells a) (cj (o_len ARat.cells b) (cj (dneN_f h1) True.intro))) (by kernel_rfl) hL)
theorem l10(a b:List ARat)(i_5:Nat)(v v1:ARat)(rat:Bool)(h1:i_5<a.length)(h2:a[i_5]? = some v)(h3:b[i_5]? = some v1)(h4:Contract prg 57 [v.pv,v1.pv] (vB rat))(h5:rat=false):Loop1 a b i_5 (vB false) :=
 L.done mixed tabOk (n:=135) (ns:=[1,1,3,3,1,1]) (tr:=[.auto,.reg [.none,.none,(iI (a.length:Int))],.dec true,dr 10 0 [.none,.none,(.row i_5 (ARat.cells v)),.none,.none,.none,(.row i_5 (ARat.cells v1)),.none,(.pv (vB rat))],.dec true,.reg []]) (cj (o_len ARat.cells a) (cj (dltN_t h1) (cj (o_at ARat.cells (Eq.refl (((i_5:Nat):Int):Int)) h2) (cj (o_at ARat.cells (Eq.refl (((i_5:Nat):Int):Int)) h3) (cj h4 (cj (bnot_t h5) True.intro)))))) (by kernel_rfl)
theorem l11(a b:List ARat)(i_5:Nat)(v v1:ARat)(rat:Bool){r:PV}(h1:i_5<a.length)(h2:a[i_5]? = some v)(h3:b[i_5]? = some v1)(h4:Contract prg 57 [v.pv,v1.pv] (vB rat))(h5:rat=true)(h6:(i_5+1)<9223372036854775808)(hL:Loop1 a b (i_5+1) r):Loop1 a b i_5 r :=
 L.go mixed tabOk (n:=138) (ns:=[1,1,3,3,1,1,1]) (tr:=[.auto,.reg [.none,.none,(iI (a.length:Int))],.dec true,dr 10 0 [.none,.none,(.row i_5 (ARat.cells v)),.none,.none,.none,(.row i_5 (ARat.cells v1)),.none,(.pv (vB rat))],.dec false,.reg [.none,(iI (((i_5+1):Nat):Int))],.keep [0,1,5]]) (cj (o_len ARat.cells a) (cj (dltN_t h1) (cj (o_at ARat.cells (Eq.refl (((i_5:Nat):Int):Int)) h2) (cj (o_at ARat.cells (Eq.refl (((i_5:Nat):Int):Int)) h3) (cj h4 (cj (bnot_f h5) (cj (bs_addN h6) True.intro))))))) (by kernel_rfl) hL
theorem l12(a b:List ARat)(i_5:Nat)(h1:a.length≤i_5):Loop1 a b i_5 (vB true) :=
 L.done mixed tabOk (n:=129) (ns:=[1,1]) (tr:=[.auto,.reg [.none,.none,(iI (a.length:Int))],.dec false,.reg []]) (cj (o_len ARat.cells a) (cj (dltN_f h1) True.intro)) (by kernel_rfl)
end linkworkbase_Rats
namespace linkworkbase_Rat
theorem e0(a b:ARat)(wor wor1:Bool)(h1:a.neg=b.neg)(h2:Contract prg 104 [(wordsPV a.num),(wordsPV b.num)] (vB wor))(h3:wor=true)(h4:Contract prg 104 [(wordsPV a.den),(wordsPV b.den)] (vB wor1)):Contract prg 57 [a.pv,b.pv] (vB wor1) :=
 Contract.ofL Tryz.func57 (by kernel_rfl) (L.done mixed tabOk (n:=72) (ns:=[1,1,1,1,1,1,1,1,1,1,1,1,1,1]) (tr:=[.reg [],.reg [.none,.none,.none,.none,.none,.none,.none,.none,.none,.none,(.pv (vB wor)),(.dec true),.none,.none,.none,.none,.none,(.pv (vB wor1)),(.dec true)]]) (cj (beq_t h1) (cj (beq_t h1) (cj (beq_t h1) (cj (beq_t h1) (cj (beq_t h1) (cj h2 (cj (beq_t h1) (cj h3 (cj h3 (cj h3 (cj h3 (cj h3 (cj h4 (cj h3 True.intro)))))))))))))) (by kernel_rfl))
theorem e1(a b:ARat)(wor:Bool)(h1:a.neg=b.neg)(h2:Contract prg 104 [(wordsPV a.num),(wordsPV b.num)] (vB wor))(h3:wor=false):Contract prg 57 [a.pv,b.pv] (vB false) :=
 Contract.ofL Tryz.func57 (by kernel_rfl) (L.done mixed tabOk (n:=72) (ns:=[1,1,1,1,1,1,1,1,1,1,1,1,1]) (tr:=[.reg [],.reg [.none,.none,.none,.none,.none,.none,.none,.none,.none,.none,(.pv (vB wor)),(.dec true),.none,.skip,.skip,.skip,.skip,.skip,(.dec false)]]) (cj (beq_t h1) (cj (beq_t h1) (cj (beq_t h1) (cj (beq_t h1) (cj (beq_t h1) (cj h2 (cj (beq_t h1) (cj h3 (cj h3 (cj h3 (cj h3 (cj h3 (cj h3 True.intro))))))))))))) (by kernel_rfl))
theorem e2(a b:ARat)(h1:a.neg≠b.neg):Contract prg 57 [a.pv,b.pv] (vB false) :=
 Contract.ofL Tryz.func57 (by kernel_rfl) (L.done mixed tabOk (n:=72) (ns:=[1,1,1,1,1,1,1,1,1,1,1]) (tr:=[.reg [],.reg [.none,.none,.none,.none,.none,.none,.skip,.skip,.skip,.skip,.skip,(.dec false),.none,.skip,.skip,.skip,.skip,.skip]]) (cj (beq_f h1) (cj (beq_f h1) (cj (beq_f h1) (cj (beq_f h1) (cj (beq_f h1) (cj (beq_f h1) (cj (Eq.refl false) (cj (Eq.refl false) (cj (Eq.refl false) (cj (Eq.refl false) (cj (Eq.refl false) True.intro))))))))))) (by kernel_rfl))
end linkworkbase_Rat
namespace linkworkbase_Words
@[reducible] noncomputable def fn:Func:=Tryz.f104
noncomputable def atK1:List Itm:=focus [0,2,0,0,2,1,2,0,0,2,0,0] [.code (bodyOf fn)]
def inv1(a b:List UInt32)(i_5:Nat):St:=⟨[(0,(.pv (wordsPV a))),(1,(.pv (wordsPV b))),(5,(eI (i_5:Int)))],[]⟩
@[reducible] noncomputable def Loop1(a b:List UInt32)(i_5:Nat)(r:PV):Prop:=L prg fn atK1 (inv1 a b i_5) r
theorem e0(a b:List UInt32)(h1:a.length≠b.length):Contract prg 104 [(wordsPV a),(wordsPV b)] (vB false) :=
 Contract.ofL Tryz.func104 (by kernel_rfl) (L.done mixed tabOk (n:=84) (ns:=[1,1,1]) (tr:=[.reg [],.reg [.none,(iI (a.length:Int)),.none,(iI (b.length:Int))],.dec true,.reg []]) (cj (o_len wordPV a) (cj (o_len wordPV b) (cj (dneN_t h1) True.intro))) (by kernel_rfl))
theorem e1(a b:List UInt32){r:PV}(h1:a.length=b.length)(hL:Loop1 a b 0 r):Contract prg 104 [(wordsPV a),(wordsPV b)] r :=
 Contract.ofL Tryz.func104 (by kernel_rfl) (L.go mixed tabOk (n:=96) (ns:=[1,1,1]) (tr:=[.reg [],.reg [.none,(iI (a.length:Int)),.none,(iI (b.length:Int))],.dec false,.reg [],.keep [0,1,5]]) (cj (o_len wordPV a) (cj (o_len wordPV b) (cj (dneN_f h1) True.intro))) (by kernel_rfl) hL)
theorem l10(a b:List UInt32)(i_5:Nat)(v v1:UInt32)(h1:i_5<a.length)(h2:a[i_5]? = some v)(h3:b[i_5]? = some v1)(h4:v.toNat≠v1.toNat):Loop1 a b i_5 (vB false) :=
 L.done mixed tabOk (n:=135) (ns:=[1,1,3,3,1]) (tr:=[.auto,.reg [.none,.none,(iI (a.length:Int))],.dec true,dr 9 0 [.none,.none,(.row i_5 (wordPV v)),.none,.none,.none,(.row i_5 (wordPV v1))],.dec true,.reg []]) (cj (o_len wordPV a) (cj (dltN_t h1) (cj (o_at wordPV (Eq.refl (((i_5:Nat):Int):Int)) h2) (cj (o_at wordPV (Eq.refl (((i_5:Nat):Int):Int)) h3) (cj (dneN_t h4) True.intro))))) (by kernel_rfl)
theorem l11(a b:List UInt32)(i_5:Nat)(v v1:UInt32){r:PV}(h1:i_5<a.length)(h2:a[i_5]? = some v)(h3:b[i_5]? = some v1)(h4:v.toNat=v1.toNat)(h5:(i_5+1)<9223372036854775808)(hL:Loop1 a b (i_5+1) r):Loop1 a b i_5 r :=
 L.go mixed tabOk (n:=138) (ns:=[1,1,3,3,1,1]) (tr:=[.auto,.reg [.none,.none,(iI (a.length:Int))],.dec true,dr 9 0 [.none,.none,(.row i_5 (wordPV v)),.none,.none,.none,(.row i_5 (wordPV v1))],.dec false,.reg [.none,(iI (((i_5+1):Nat):Int))],.keep [0,1,5]]) (cj (o_len wordPV a) (cj (dltN_t h1) (cj (o_at wordPV (Eq.refl (((i_5:Nat):Int):Int)) h2) (cj (o_at wordPV (Eq.refl (((i_5:Nat):Int):Int)) h3) (cj (dneN_f h4) (cj (bs_addN h5) True.intro)))))) (by kernel_rfl) hL
theorem l12(a b:List UInt32)(i_5:Nat)(h1:a.length≤i_5):Loop1 a b i_5 (vB true) :=
 L.done mixed tabOk (n:=129) (ns:=[1,1]) (tr:=[.auto,.reg [.none,.none,(iI (a.length:Int))],.dec false,.reg []]) (cj (o_len wordPV a) (cj (dltN_f h1) True.intro)) (by kernel_rfl)
end linkworkbase_Words
end Go.Proofs.YtboilcfohmmpbaaGreatDoor.Sym.Path
namespace Go.Proofs.YtboilcfohmmpbaaGreatDoor.Sym
open Go Path CInt
set_option linter.unusedVariables false
def eqR(a b:ARat):Bool:=decide (a.neg=b.neg)&&(decide (a.num=b.num)&&decide (a.den=b.den))
theorem eqR_iff{a b:ARat} : eqR a b=true↔a=b:=by
 obtain⟨n,m,d⟩:=a
 obtain⟨n',m',d'⟩:=b
 unfold eqR
 simp only[Bool.and_eq_true,decide_eq_true_eq,ARat.mk.injEq]
theorem eqR_self(a:ARat):eqR a a=true:=eqR_iff.2 rfl
def eqRs:List ARat→List ARat→Bool
 |[],[]=>true
 |a::r,b::s=>eqR a b&&eqRs r s
 |_,_=>false
theorem eqRs_iff:∀{p q:List ARat},eqRs p q=true↔p=q
 |[],[]=>by simp[eqRs]
 |a::r,b::s=>by
  show(eqR a b&&eqRs r s)=true↔_
  rw[Bool.and_eq_true,eqR_iff,eqRs_iff,List.cons.injEq]
 |[],b::s=>by simp[eqRs]
 |a::r,[]=>by simp[eqRs]
theorem eqRs_self(p:List ARat):eqRs p p=true:=eqRs_iff.2 rfl
theorem eqRs_ne{p q:List ARat}(h:p≠q):eqRs p q=false:=by
 cases hb:eqRs p q with
 |true=>exact absurd (eqRs_iff.1 hb) h
 |false=>rfl
namespace CBa
theorem Words(a b:Sym.Words)(hl:a.length<9223372036854775807):Contract prg 104 [wordsPV a,wordsPV b] (vB (decide (a=b))):=by
 by_cases h:a.length=b.length
 ·have loop:∀(j t:Nat),a.length-t=j→t≤a.length→a.take t=b.take t→linkworkbase_Words.Loop1 a b t (vB (decide (a=b))):=by
   intro j
   induction j with
   |zero =>
    intro t hj ht he
    rw[List.take_of_length_le (by omega),List.take_of_length_le (by omega)] at he
    rw[decide_eq_true he]
    exact linkworkbase_Words.l12 a b t (by omega)
   |succ j ih =>
    intro t hj ht he
    obtain⟨v,hv⟩:∃v,a[t]? = some v:=⟨_,List.getElem?_eq_getElem (by omega)⟩
    obtain⟨w,hw⟩:∃w,b[t]? = some w:=⟨_,List.getElem?_eq_getElem (by omega)⟩
    by_cases h0:v.toNat=w.toNat
    ·exact linkworkbase_Words.l11 a b t v w (by omega) hv hw h0 (by omega) (ih (t+1) (by omega) (by omega) (by rw[List.take_add_one,List.take_add_one,he,hv,hw,w_eq h0]))
    ·have hne:a≠b:=by
      intro e;subst e
      rw[hv] at hw;injection hw with hw
      exact h0 (by rw[hw])
     rw[decide_eq_false hne]
     exact linkworkbase_Words.l10 a b t v w (by omega) hv hw h0
  exact linkworkbase_Words.e1 a b h (loop _ 0 rfl (by omega) rfl)
 ·rw[decide_eq_false (fun e=>h (by rw[e]))]
  exact linkworkbase_Words.e0 a b h
theorem Rat(a b:ARat)(h1:a.num.length<9223372036854775807)(h2:a.den.length<9223372036854775807):Contract prg 57 [a.pv,b.pv] (vB (eqR a b)):=by
 unfold eqR
 by_cases hn:a.neg=b.neg
 ·rw[decide_eq_true hn,Bool.true_and]
  have w1:=Words a.num b.num h1
  have w2:=Words a.den b.den h2
  cases hw:decide (a.num=b.num) with
  |true=>rw[Bool.true_and];rw[hw] at w1;exact linkworkbase_Rat.e0 a b _ _ hn w1 rfl w2
  |false=>rw[Bool.false_and];rw[hw] at w1;exact linkworkbase_Rat.e1 a b _ hn w1 rfl
 ·rw[decide_eq_false hn,Bool.false_and]
  exact linkworkbase_Rat.e2 a b hn
theorem Rats(p q:List ARat)(hl:p.length<9223372036854775807)(hf:∀a∈p,a.num.length<9223372036854775807∧a.den.length<9223372036854775807):Contract prg 56 [polyPV p,polyPV q] (vB (eqRs p q)):=by
 by_cases h:p.length=q.length
 ·have loop:∀(j t:Nat),p.length-t=j→t≤p.length→p.take t=q.take t→linkworkbase_Rats.Loop1 p q t (vB (eqRs p q)):=by
   intro j
   induction j with
   |zero =>
    intro t hj ht he
    rw[List.take_of_length_le (by omega),List.take_of_length_le (by omega)] at he
    rw[eqRs_iff.2 he]
    exact linkworkbase_Rats.l12 p q t (by omega)
   |succ j ih =>
    intro t hj ht he
    obtain⟨v,hv⟩:∃v,p[t]? = some v:=⟨_,List.getElem?_eq_getElem (by omega)⟩
    obtain⟨w,hw⟩:∃w,q[t]? = some w:=⟨_,List.getElem?_eq_getElem (by omega)⟩
    have hvf:=hf v (List.mem_of_getElem? hv)
    have hr:=Rat v w hvf.1 hvf.2
    cases h0:eqR v w with
    |true =>
     rw[h0] at hr
     exact linkworkbase_Rats.l11 p q t v w _ (by omega) hv hw hr rfl (by omega) (ih (t+1) (by omega) (by omega) (by rw[List.take_add_one,List.take_add_one,he,hv,hw,eqR_iff.1 h0]))
    |false =>
     have hne:p≠q:=by
      intro e;subst e
      rw[hv] at hw;injection hw with hw
      rw[hw,eqR_self] at h0;cases h0
     rw[eqRs_ne hne]
     rw[h0] at hr
     exact linkworkbase_Rats.l10 p q t v w _ (by omega) hv hw hr rfl
  exact linkworkbase_Rats.e1 p q h (loop _ 0 rfl (by omega) rfl)
 ·rw[eqRs_ne (fun e=>h (by rw[e]))]
  exact linkworkbase_Rats.e0 p q h
theorem Num(e:Option Int):Contract prg 18 [errPV e] (vI (e.getD 0)):=by
 cases e with
 |none=>exact linkworkbase_Num.e0
 |some n=>exact linkworkbase_Num.e1 n
end CBa
end Go.Proofs.YtboilcfohmmpbaaGreatDoor.Sym

namespace Go.Proofs.YtboilcfohmmpbaaGreatDoor.Sym
open Go Path CInt
set_option linter.unusedVariables false
theorem trimL_cons(a:Rat)(r:List Rat):trimL (a::r)=bif (trimL r).isEmpty&&decide (a=0) then [] else a::trimL r:=rfl
theorem trimL_cases(a:Rat)(r:List Rat):(trimL r=[]∧a=0∧trimL (a::r)=[])∨trimL (a::r)=a::trimL r:=by
 rw[trimL_cons]
 cases h:(trimL r).isEmpty&&decide (a=0) with
 |false=>exact Or.inr rfl
 |true =>
  rw[Bool.and_eq_true] at h
  exact Or.inl ⟨List.isEmpty_iff.1 h.1,of_decide_eq_true h.2,rfl⟩
theorem mem_trimL:∀{q:List Rat} {y:Rat},y∈trimL q→y∈q
 |[],y,h=>h
 |a::r,y,h=>by
  rcases trimL_cases a r with ⟨_,_,e⟩|e
  ·rw[e] at h;cases h
  ·rw[e] at h
   rcases List.mem_cons.1 h with h|h
   ·rw[h];exact List.mem_cons_self ..
   ·exact List.mem_cons_of_mem _ (mem_trimL h)
theorem len_trimL:∀q:List Rat,(trimL q).length≤q.length
 |[]=>by simp[trimL]
 |a::r=>by
  rcases trimL_cases a r with ⟨_,_,e⟩|e
  ·rw[e];simp
  ·rw[e];simpa using len_trimL r
theorem fl_trimL{k:Nat}{q:List Rat}(h:Fl k q):Fl k (trimL q):=fun x hx=>h x (mem_trimL hx)
theorem lastZ_trimL:∀q:List Rat,lastZ (trimL q)=false
 |[]=>rfl
 |a::r=>by
  have ih:=lastZ_trimL r
  rw[trimL_cons]
  cases h:trimL r with
  |nil =>
   by_cases h0:a=0
   ·rw[decide_eq_true h0];rfl
   ·rw[decide_eq_false h0]
    unfold lastZ
    exact decide_eq_false h0
  |cons b s =>
   rw[h] at ih
   unfold lastZ at ih ⊢
   rw[show (bif (b::s).isEmpty&&decide (a=0) then [] else a::b::s)=a::b::s from rfl]
   rw[List.getLast?_cons_cons]
   exact ih
theorem trimL_of:∀{q:List Rat},lastZ q=false→trimL q=q
 |[],_=>rfl
 |[a],h=>by
  unfold lastZ at h
  have h:¬a=0:=of_decide_eq_false h
  rw[trimL_cons,decide_eq_false h];rfl
 |a::b::s,h=>by
  unfold lastZ at h
  rw[List.getLast?_cons_cons] at h
  have:=trimL_of (q:=b::s) h
  rw[trimL_cons,this];rfl
theorem chk_map{q:List Rat}(h:lastZ q=false)(hl:q.length≤65):chk (q.map mkR)=0:=by
 unfold chk
 rw[if_neg (by rw[List.length_map];omega),vals_mkR,h]
 rw[show (q.map mkR).all ARat.valid=true from by
  rw[List.all_eq_true]
  intro a ha
  obtain⟨x,_,rfl⟩:=List.mem_map.1 ha
  exact mkR_valid x]
 rfl
theorem evalL_trimL(x:Rat):∀q:List Rat,evalL (trimL q) x=evalL q x
 |[]=>rfl
 |a::r=>by
  have ih:=evalL_trimL x r
  rcases trimL_cases a r with ⟨h1,h2,e⟩|e
  ·rw[e,evalL,evalL,←ih,h1,h2,evalL];grind
  ·rw[e,evalL,evalL,ih]
theorem fl_derI2{k:Nat} : ∀(q:List Rat) (i:Nat),i+q.length≤18446744073709551615→Fl k q→Fl (k+2) (derI i q)
 |[],_,_,_=>fun x hx=>by cases hx
 |a::r,i,hi,h=>by
  intro x hx
  rw[List.length_cons] at hi
  rcases List.mem_cons.1 hx with e|hx
  ·rw[e]
   have h1:=ht_mul ((i:Int):Rat) a
   have h2:=h a (List.mem_cons_self ..)
   have h3:ht ((i:Int):Rat)≤2:=by
    rw[ht_int]
    have:wl (i:Int)≤2:=wl_le (by omega)
    omega
   omega
  ·exact fl_derI2 r (i+1) (by omega) (fun y hy=>h y (List.mem_cons_of_mem _ hy)) x hx
theorem fl_deriveL{k:Nat}{q:List Rat}(hl:q.length≤65)(h:Fl k q):Fl (k+2) (deriveL q) :=
 fl_trimL (fl_derI2 _ 1 (by rw[List.length_drop];omega) (fun y hy=>h y (List.mem_of_mem_drop hy)))
theorem lastZ_deriveL(q:List Rat):lastZ (deriveL q)=false:=lastZ_trimL _
end Go.Proofs.YtboilcfohmmpbaaGreatDoor.Sym
namespace Go.Proofs.YtboilcfohmmpbaaGreatDoor.Sym
open Go Path CInt
set_option linter.unusedVariables false
def coef(p:List Rat)(i:Nat):Rat:=p[i]?.getD 0
def addL:List Rat→List Rat→List Rat
 |[],q=>q
 |a::p,[]=>a::p
 |a::p,b::q=>(a+b)::addL p q
def smulL(c:Rat)(q:List Rat):List Rat:=q.map (fun x=>c*x)
def mulL:List Rat→List Rat→List Rat
 |[],_=>[]
 |a::p,q=>addL (smulL a q) (0::mulL p q)
def shiftL(s:Nat)(q:List Rat):List Rat:=List.replicate s 0++q
theorem coef_nil(i:Nat):coef [] i=0:=rfl
theorem coef_zero(a:Rat)(p:List Rat):coef (a::p) 0=a:=rfl
theorem coef_succ(a:Rat)(p:List Rat)(i:Nat):coef (a::p) (i+1)=coef p i:=rfl
theorem coef_of{p:List Rat}{i:Nat}{v:Rat}(h:p[i]? = some v):coef p i=v:=by unfold coef;rw[h];rfl
theorem coef_ge{p:List Rat}{i:Nat}(h:p.length≤i):coef p i=0:=by unfold coef;rw[List.getElem?_eq_none h];rfl
theorem coef_get{p:List Rat}{i:Nat}(h:i<p.length):p[i]? = some (coef p i):=by unfold coef;rw[List.getElem?_eq_getElem h];rfl
theorem coef_addL:∀(p q:List Rat) (i:Nat),coef (addL p q) i=coef p i+coef q i
 |[],q,i=>by rw[addL,coef_nil,Rat.zero_add]
 |a::p,[],i=>by rw[addL,coef_nil,Rat.add_zero]
 |a::p,b::q,0=>rfl
 |a::p,b::q,i+1=>by rw[addL,coef_succ,coef_succ,coef_succ,coef_addL p q i]
theorem coef_smulL(c:Rat)(q:List Rat)(i:Nat):coef (smulL c q) i=c*coef q i:=by
 unfold coef smulL
 rw[List.getElem?_map]
 cases q[i]? with
 |none=>show(0:Rat)=c*0;rw[Rat.mul_zero]
 |some v=>rfl
theorem coef_mul_cons(a:Rat)(p q:List Rat)(i:Nat):coef (mulL (a::p) q) i=a*coef q i+coef (0::mulL p q) i:=by rw[mulL,coef_addL,coef_smulL]
theorem coef_shiftL(s:Nat)(q:List Rat)(i:Nat):coef (shiftL s q) i=if i<s then 0 else coef q (i-s):=by
 unfold coef shiftL
 split
 ·rename_i h
  rw[List.getElem?_append_left (by rw[List.length_replicate];exact h),List.getElem?_replicate,if_pos h];rfl
 ·rename_i h
  rw[List.getElem?_append_right (by rw[List.length_replicate];omega),List.length_replicate]
theorem len_addL:∀(p q:List Rat),(addL p q).length=max p.length q.length
 |[],q=>by rw[addL,List.length_nil,Nat.zero_max]
 |a::p,[]=>by rw[addL,List.length_nil,Nat.max_zero]
 |a::p,b::q=>by rw[addL,List.length_cons,List.length_cons,List.length_cons,len_addL p q];omega
theorem len_smulL(c:Rat)(q:List Rat):(smulL c q).length=q.length:=List.length_map ..
theorem len_mulL:∀(p q:List Rat),(mulL p q).length≤p.length+q.length
 |[],q=>by simp[mulL]
 |a::p,q=>by
  have:=len_mulL p q
  rw[mulL,len_addL,len_smulL,List.length_cons,List.length_cons]
  omega
theorem trimL_ext:∀{p q:List Rat},(∀i,coef p i=coef q i)→trimL p=trimL q
 |[],[],_=>rfl
 |[],b::q,h=>by
  have h0:(0:Rat)=b:=h 0
  have:=trimL_ext (p:=[]) (q:=q) (fun i=>h (i+1))
  rw[trimL_cons,←this,←h0];rfl
 |a::p,[],h=>by
  have h0:a=(0:Rat):=h 0
  have:=trimL_ext (p:=p) (q:=[]) (fun i=>h (i+1))
  rw[trimL_cons,this,h0];rfl
 |a::p,b::q,h=>by
  have h0:a=b:=h 0
  rw[trimL_cons,trimL_cons,trimL_ext (p:=p) (q:=q) (fun i=>h (i+1)),h0]
theorem coef_trimL:∀(p:List Rat) (i:Nat),coef (trimL p) i=coef p i
 |[],_=>rfl
 |a::r,i=>by
  rcases trimL_cases a r with ⟨h1,h2,e⟩|e
  ·rw[e]
   cases i with
   |zero=>exact h2.symm
   |succ i=>rw[coef_succ,←coef_trimL r i,h1,coef_nil,coef_nil]
  ·rw[e]
   cases i with
   |zero=>rfl
   |succ i=>rw[coef_succ,coef_succ,coef_trimL r i]
theorem coef_inj{p q:List Rat}(hp:lastZ p=false)(hq:lastZ q=false)(h:∀i,coef p i=coef q i):p=q:=by
 rw[←trimL_of hp,←trimL_of hq];exact trimL_ext h
theorem evalL_addL(x:Rat):∀(p q:List Rat),evalL (addL p q) x=evalL p x+evalL q x
 |[],q=>by rw[addL,evalL,Rat.zero_add]
 |a::p,[]=>by rw[addL,show evalL [] x=0 from rfl,Rat.add_zero]
 |a::p,b::q=>by rw[addL,evalL,evalL,evalL,evalL_addL x p q];grind
theorem evalL_smulL(c x:Rat):∀(q:List Rat),evalL (smulL c q) x=c*evalL q x
 |[]=>by show(0:Rat)=c*0;rw[Rat.mul_zero]
 |a::q=>by
  have:=evalL_smulL c x q
  show evalL (smulL c q) x*x+c*a=c*(evalL q x*x+a)
  rw[this];grind
theorem evalL_mulL(x:Rat):∀(p q:List Rat),evalL (mulL p q) x=evalL p x*evalL q x
 |[],q=>by show(0:Rat)=0*_;rw[Rat.zero_mul]
 |a::p,q=>by
  rw[mulL,evalL_addL,evalL_smulL,evalL,evalL_mulL x p q,evalL];grind
theorem evalL_shiftL(x:Rat):∀(s:Nat) (q:List Rat),evalL (shiftL s q) x=x^s*evalL q x
 |0,q=>by show evalL q x=_;rw[Rat.pow_zero,Rat.one_mul]
 |s+1,q=>by
  have:=evalL_shiftL x s q
  show evalL (shiftL s q) x*x+0=_
  rw[this,Rat.pow_succ];grind
def quoL(c:Rat):List Rat→List Rat
 |[]=>[]
 |[_]=>[]
 |_::b::r=>evalL (b::r) c::quoL c (b::r)
theorem quoL_len(c:Rat):∀p:List Rat,(quoL c p).length=p.length-1
 |[]=>rfl
 |[_]=>rfl
 |_::b::r=>by rw[quoL,List.length_cons,quoL_len c (b::r)];simp
theorem quoL_eval(c x:Rat):∀p:List Rat,evalL p x=evalL p c+(x-c)*evalL (quoL c p) x
 |[]=>by show(0:Rat)=0+(x-c)*0;grind
 |[a]=>by show 0*x+a=(0*c+a)+(x-c)*0;grind
 |a::b::r=>by
  have:=quoL_eval c x (b::r)
  rw[quoL]
  show evalL (b::r) x*x+a=(evalL (b::r) c*c+a)+(x-c)*(evalL (quoL c (b::r)) x*x+evalL (b::r) c)
  rw[this]
  grind
theorem quoL_zero(c:Rat):∀p:List Rat,evalL p c=0→(∀y∈quoL c p,y=0)→∀y∈p,y=0
 |[],_,_=>fun y h=>by cases h
 |[a],h,_=>fun y hy=>by
  have h:0*c+a=0:=h
  rw[List.mem_singleton.1 hy];grind
 |a::b::r,h,hq=>fun y hy=>by
  rw[quoL] at hq
  have h1:=hq _ (List.mem_cons_self ..)
  have ih:=quoL_zero c (b::r) h1 (fun z hz=>hq z (List.mem_cons_of_mem _ hz))
  rcases List.mem_cons.1 hy with e|hy
  ·rw[evalL,h1] at h
   rw[e];grind
  ·exact ih y hy
theorem eval_zero:∀(n:Nat) (p:List Rat) (N:Nat),p.length≤n→(∀m:Nat,N≤m→evalL p ((m:Int):Rat)=0)→∀y∈p,y=0
 |0,p,N,hl,_=>fun y hy=>by
  have:p=[]:=List.eq_nil_of_length_eq_zero (by omega)
  rw[this] at hy;cases hy
 |n+1,p,N,hl,h=>by
  have h0:=h N (Nat.le_refl _)
  refine quoL_zero _ p h0 (eval_zero n _ (N+1) (by rw[quoL_len];omega) (fun m hm => ?_))
  have h1:=h m (by omega)
  rw[quoL_eval ((N:Int):Rat) _ p,h0,Rat.zero_add] at h1
  rcases Rat.mul_eq_zero.1 h1 with e|e
  ·have:((m:Int):Rat)=((N:Int):Rat):=by grind
   have:=Rat.intCast_inj.1 this
   omega
  ·exact e
theorem coef_all{p:List Rat}(h:∀y∈p,y=0)(i:Nat):coef p i=0:=by
 unfold coef
 cases hv:p[i]? with
 |none=>rfl
 |some v=>exact h v (List.mem_of_getElem? hv)
theorem eval_coef{p q:List Rat}(h:∀x,evalL p x=evalL q x)(i:Nat):coef p i=coef q i:=by
 have hz:=eval_zero _ (addL p (smulL (-1) q)) 0 (Nat.le_refl _) (fun m _=>by rw[evalL_addL,evalL_smulL,h];grind)
 have:=coef_all hz i
 rw[coef_addL,coef_smulL] at this
 grind
theorem eval_ext{p q:List Rat}(h:∀x,evalL p x=evalL q x):trimL p=trimL q:=trimL_ext (eval_coef h)
theorem coef_mul_comm(p q:List Rat)(i:Nat):coef (mulL p q) i=coef (mulL q p) i:=eval_coef (fun x=>by rw[evalL_mulL,evalL_mulL,Rat.mul_comm]) i
theorem coef_mul_snoc{p:List Rat}{t:Nat}{v:Rat}(h:p[t]? = some v)(q:List Rat)(i:Nat):coef (mulL (p.take (t+1)) q) i=coef (mulL (p.take t) q) i+coef (shiftL t (smulL v q)) i:=by
 have hl:=(List.getElem?_eq_some_iff.1 h).1
 have key:∀x,evalL (mulL (p.take (t+1)) q) x=evalL (addL (mulL (p.take t) q) (shiftL t (smulL v q))) x:=by
  intro x
  rw[evalL_addL,evalL_mulL,evalL_mulL,evalL_shiftL,evalL_smulL,List.take_add_one,h]
  have:∀(l:List Rat),evalL (l++[v]) x=evalL l x+x^l.length*v:=by
   intro l
   induction l with
   |nil=>show 0*x+v=0+x^0*v;rw[Rat.pow_zero];grind
   |cons a l ih =>
    rw[List.cons_append,evalL,evalL,ih,List.length_cons,Rat.pow_succ];grind
  show evalL (p.take t++[v]) x*_=_
  rw[this,List.length_take,Nat.min_eq_left (by omega)]
  grind
 rw[←coef_addL]
 exact eval_coef key i
theorem ht_mul_coef{k m:Nat} : ∀(p q:List Rat) (i:Nat),(∀i,ht (coef p i)≤k)→(∀i,ht (coef q i)≤m)→ht (coef (mulL p q) i)≤p.length*(k+m+1)+1
 |[],q,i,_,_=>Nat.le_trans (Nat.le_of_eq ht_zero) (by omega)
 |a::p,q,i,hp,hq=>by
  have ih:=fun i=>ht_mul_coef (k:=k) (m:=m) p q i
  have h1:=ht_mul a (coef q i)
  have h2:=hp 0
  rw[coef_zero] at h2
  have h3:=hq i
  rw[coef_mul_cons,List.length_cons,Nat.add_mul]
  have h4:=ht_add (a*coef q i) (coef (0::mulL p q) i)
  have h5:ht (coef (0::mulL p q) i)≤p.length*(k+m+1)+1:=by
   cases i with
   |zero=>rw[coef_zero,ht_zero];omega
   |succ i=>rw[coef_succ];exact ih i (fun j=>hp (j+1)) hq
  omega
theorem fl_coef{k:Nat}{p:List Rat}(h:Fl k p)(hk:1≤k)(i:Nat):ht (coef p i)≤k:=by
 unfold coef
 cases hv:p[i]? with
 |none=>exact Nat.le_trans (Nat.le_of_eq ht_zero) hk
 |some v=>exact h v (List.mem_of_getElem? hv)
theorem fl_of_coef{k:Nat}{p:List Rat}(h:∀i,ht (coef p i)≤k):Fl k p:=by
 intro x hx
 obtain⟨i,hi⟩:=List.mem_iff_getElem?.1 hx
 have:=h i
 rwa[coef_of hi] at this
theorem fl_mono{k m:Nat}{q:List Rat}(h:Fl k q)(hk:k≤m):Fl m q:=fun x hx=>Nat.le_trans (h x hx) hk
def tabL(m:Nat)(g:Nat→Rat):List Rat:=(List.range m).map g
theorem tabL_len(m:Nat)(g:Nat→Rat):(tabL m g).length=m:=by unfold tabL;rw[List.length_map,List.length_range]
theorem tabL_get{m i:Nat}(g:Nat→Rat)(h:i<m):(tabL m g)[i]? = some (g i):=by
 unfold tabL;rw[List.getElem?_map,List.getElem?_range h];rfl
theorem tabL_set{m i:Nat}(g:Nat→Rat)(v:Rat)(h:i<m):(tabL m g).set i v=tabL m (fun j=>if j=i then v else g j):=by
 refine List.ext_getElem? fun j => ?_
 by_cases hj:j<m
 ·rw[tabL_get _ hj]
  by_cases e:j=i
  ·subst e
   rw[List.getElem?_set_self (by rw[tabL_len];exact h),if_pos rfl]
  ·rw[List.getElem?_set_ne (by omega),tabL_get _ hj,if_neg e]
 ·rw[List.getElem?_eq_none (by rw[List.length_set,tabL_len];omega),List.getElem?_eq_none (by rw[tabL_len];omega)]
theorem tabL_zero(m:Nat):List.replicate m (⟨false,[],[]⟩:ARat)=(tabL m (fun _=>0)).map mkR:=by
 refine List.ext_getElem? fun j => ?_
 rw[List.getElem?_map]
 by_cases hj:j<m
 ·rw[tabL_get _ hj,List.getElem?_replicate,if_pos hj];rfl
 ·rw[List.getElem?_eq_none (by rw[List.length_replicate];omega),List.getElem?_eq_none (by rw[tabL_len];omega)];rfl
theorem tabL_coef{m:Nat}{g:Nat→Rat}(h:∀i,m≤i→g i=0)(i:Nat):coef (tabL m g) i=g i:=by
 by_cases hi:i<m
 ·exact coef_of (tabL_get g hi)
 ·rw[coef_ge (by rw[tabL_len];omega),h i (by omega)]
theorem tabL_congr{m:Nat}{f g:Nat→Rat}(h:∀i,i<m→f i=g i):tabL m f=tabL m g:=by
 unfold tabL
 exact List.map_congr_left (fun i hi=>h i (List.mem_range.1 hi))
end Go.Proofs.YtboilcfohmmpbaaGreatDoor.Sym
namespace Go.Proofs.YtboilcfohmmpbaaGreatDoor.Sym
open Go Path CInt
set_option linter.unusedVariables false
def topL(p:List Rat):Rat:=coef p (p.length-1)
theorem top_ne{p:List Rat}(hz:lastZ p=false)(h:p≠[]):topL p≠0:=by
 unfold lastZ at hz
 have hl:=List.length_pos_iff.2 h
 rw[List.getLast?_eq_getElem?,coef_get (p:=p) (i:=p.length-1) (by omega)] at hz
 exact of_decide_eq_false hz
theorem len_trim_le{p:List Rat}{n:Nat}(h:∀i,n≤i→coef p i=0):(trimL p).length≤n:=by
 refine Nat.le_of_not_lt fun hlt => ?_
 have hne:trimL p≠[]:=by intro e;rw[e] at hlt;simp at hlt
 have:=top_ne (lastZ_trimL p) hne
 unfold topL at this
 rw[coef_trimL,h _ (by omega)] at this
 exact this rfl
def stepC(rest q:List Rat):Rat:=topL rest/topL q
def stepR(rest q:List Rat):List Rat:=trimL (addL rest (shiftL (rest.length-q.length) (smulL (-(stepC rest q)) q)))
def divF:Nat→List Rat→List Rat→List Rat→List Rat×List Rat
 |0,out,rest,_=>(out,rest)
 |n+1,out,rest,q=>bif Nat.blt rest.length q.length then (out,rest) else divF n (trimL (addL out (shiftL (rest.length-q.length) [stepC rest q]))) (stepR rest q) q
def divL(p q:List Rat):List Rat×List Rat:=divF (p.length+1) [] (trimL p) q
def restL(p q:List Rat):List Rat:=(divL p q).2
def monicL(p:List Rat):List Rat:=trimL (smulL (1/topL p) p)
def gcdF:Nat→List Rat→List Rat→List Rat
 |0,p,_=>p
 |n+1,p,q=>bif Nat.beq q.length 0 then p else gcdF n q (monicL (restL p q))
def gcdL(p q:List Rat):List Rat:=monicL (gcdF (q.length+1) p q)
theorem blt_iff{a b:Nat} : Nat.blt a b=true↔a<b:=by rw[Nat.blt_eq]
theorem blt_fal{a b:Nat} : Nat.blt a b=false↔b≤a:=by
 constructor
 ·intro h;exact Nat.le_of_not_lt fun e=>by rw[blt_iff.2 e] at h;cases h
 ·intro h
  cases hb:Nat.blt a b with
  |true=>have:=blt_iff.1 hb;omega
  |false=>rfl
theorem stepC_mul{rest q:List Rat}(hq:topL q≠0):stepC rest q*topL q=topL rest:=by
 unfold stepC
 rw[Rat.div_mul_cancel hq]
theorem stepR_len{rest q:List Rat}(hq:topL q≠0)(hq0:q.length≠0)(hl:q.length≤rest.length):(stepR rest q).length<rest.length:=by
 have h:=len_trim_le (p:=addL rest (shiftL (rest.length-q.length) (smulL (-(stepC rest q)) q))) (n:=rest.length-1) (fun i hi=>by
  rw[coef_addL,coef_shiftL,coef_smulL,if_neg (by omega)]
  by_cases e:i=rest.length-1
  ·have h1:=stepC_mul (rest:=rest) hq
   unfold topL at h1
   rw[e,show rest.length-1-(rest.length-q.length)=q.length-1 from by omega]
   grind
  ·rw[coef_ge (p:=rest) (by omega),coef_ge (p:=q) (by omega)];grind)
 unfold stepR
 omega
theorem stepR_eval(rest q:List Rat)(x:Rat):evalL (stepR rest q) x=evalL rest x-x^(rest.length-q.length)*stepC rest q*evalL q x:=by
 unfold stepR
 rw[evalL_trimL,evalL_addL,evalL_shiftL,evalL_smulL];grind
theorem divF_spec{q:List Rat}(hq:topL q≠0)(hq0:q.length≠0):∀(n:Nat) (out rest:List Rat),rest.length<n →
  (divF n out rest q).2.length<q.length∧∀x,evalL (divF n out rest q).1 x*evalL q x+evalL (divF n out rest q).2 x=evalL out x*evalL q x+evalL rest x
 |0,out,rest,h=>by omega
 |n+1,out,rest,h=>by
  rw[divF]
  cases hb:Nat.blt rest.length q.length with
  |true=>exact⟨blt_iff.1 hb,fun x=>rfl⟩
  |false =>
   have hl:=blt_fal.1 hb
   have h1:=stepR_len hq hq0 hl
   rw[cond_false]
   obtain⟨g1,g2⟩:=divF_spec hq hq0 n (trimL (addL out (shiftL (rest.length-q.length) [stepC rest q]))) (stepR rest q) (by omega)
   refine⟨g1,fun x => ?_⟩
   rw[g2 x,stepR_eval,evalL_trimL,evalL_addL,evalL_shiftL]
   have:evalL [stepC rest q] x=stepC rest q:=by show 0*x+stepC rest q=stepC rest q;grind
   rw[this];grind
theorem divF_trim{q:List Rat} : ∀(n:Nat) (out rest:List Rat),lastZ out=false→lastZ rest=false→lastZ (divF n out rest q).1=false∧lastZ (divF n out rest q).2=false
 |0,out,rest,h1,h2=>⟨h1,h2⟩
 |n+1,out,rest,h1,h2=>by
  rw[divF]
  cases Nat.blt rest.length q.length with
  |true=>exact⟨h1,h2⟩
  |false=>exact divF_trim n _ _ (lastZ_trimL _) (lastZ_trimL _)
theorem divL_spec{q:List Rat}(p:List Rat)(hz:lastZ q=false)(hq0:q≠[]):(divL p q).2.length<q.length∧∀x,evalL (divL p q).1 x*evalL q x+evalL (divL p q).2 x=evalL p x:=by
 have hl:=List.length_pos_iff.2 hq0
 obtain⟨g1,g2⟩:=divF_spec (top_ne hz hq0) (by omega) (p.length+1) [] (trimL p) (by have:=len_trimL p;omega)
 refine⟨g1,fun x => ?_⟩
 show evalL (divF _ _ _ _).1 x*_+evalL (divF _ _ _ _).2 x=_
 rw[g2 x,evalL_trimL]
 show(0:Rat)*_+_=_
 grind
theorem divL_trim(p q:List Rat):lastZ (divL p q).1=false∧lastZ (divL p q).2=false:=divF_trim _ _ _ rfl (lastZ_trimL _)
theorem coef_mul_top:∀(p q:List Rat),p≠[]→q≠[]→coef (mulL p q) (p.length+q.length-2)=topL p*topL q
 |[],q,h,_=>absurd rfl h
 |[a],q,_,hq=>by
  have hl:=List.length_pos_iff.2 hq
  rw[coef_mul_cons]
  show a*coef q ([a].length+q.length-2)+coef [0] _=a*coef q (q.length-1)
  rw[show [a].length+q.length-2=q.length-1 from by simp;omega]
  have:coef [0] (q.length-1)=0:=by
   cases q.length-1 with
   |zero=>rfl
   |succ n=>rfl
  rw[this,Rat.add_zero]
 |a::b::r,q,_,hq=>by
  have hl:=List.length_pos_iff.2 hq
  have ih:=coef_mul_top (b::r) q (by simp) hq
  rw[coef_mul_cons,coef_ge (p:=q) (by simp;omega)]
  rw[show (a::b::r).length+q.length-2=((b::r).length+q.length-2)+1 from by simp;omega,coef_succ,ih]
  have:topL (a::b::r)=topL (b::r):=by
   unfold topL
   rw[show (a::b::r).length-1=((b::r).length-1)+1 from by simp,coef_succ]
  rw[this];grind
theorem top_of_coef{p:List Rat}{i:Nat}(h:coef p i≠0):i<p.length:=by
 refine Nat.lt_of_not_le fun e=>h (coef_ge e)
theorem div_uniq{p q a r:List Rat}(hz:lastZ q=false)(hq0:q≠[])(ha:lastZ a=false)(hr:lastZ r=false)(hl:r.length<q.length)(h:∀x,evalL a x*evalL q x+evalL r x=evalL p x):divL p q=(a,r):=by
 obtain⟨g1,g2⟩:=divL_spec p hz hq0
 obtain⟨t1,t2⟩:=divL_trim p q
 have ea:(divL p q).1=a:=by
  refine coef_inj t1 ha (fun i => ?_)
  have key:trimL (addL (divL p q).1 (smulL (-1) a))=[]:=by
   refine Classical.byContradiction fun hne => ?_
   have h1:=coef_mul_top _ q hne hq0
   have h2:topL (trimL (addL (divL p q).1 (smulL (-1) a)))*topL q≠0:=by
    intro e
    rcases Rat.mul_eq_zero.1 e with e|e
    ·exact top_ne (lastZ_trimL _) hne e
    ·exact top_ne hz hq0 e
   have h3:=eval_coef (p:=mulL (trimL (addL (divL p q).1 (smulL (-1) a))) q) (q:=addL r (smulL (-1) (divL p q).2)) (fun x=>by
    have:=g2 x
    have:=h x
    rw[evalL_mulL,evalL_trimL,evalL_addL,evalL_smulL,evalL_addL,evalL_smulL];grind) ((trimL (addL (divL p q).1 (smulL (-1) a))).length+q.length-2)
   rw[h1,coef_addL,coef_smulL] at h3
   have hp:=List.length_pos_iff.2 hne
   rw[coef_ge (p:=r) (by omega),coef_ge (p:=(divL p q).2) (by omega)] at h3
   exact h2 (by rw[h3];grind)
  have:=coef_trimL (addL (divL p q).1 (smulL (-1) a)) i
  rw[key,coef_addL,coef_smulL,coef_nil] at this
  grind
 have er:(divL p q).2=r:=by
  refine coef_inj t2 hr (eval_coef (fun x => ?_))
  have h1:=g2 x
  have h2:=h x
  rw[ea] at h1
  grind
 exact Prod.ext ea er
theorem smulL_eval_inj{p:List Rat} : lastZ p=false→∀c,c≠0→lastZ (smulL c p)=false:=by
 intro hz c hc
 by_cases h:p=[]
 ·subst h;rfl
 ·have:=top_ne hz h
  unfold topL at this
  unfold lastZ
  have hl:=List.length_pos_iff.2 h
  rw[List.getLast?_eq_getElem?,len_smulL,coef_get (by rw[len_smulL];omega),coef_smulL]
  show decide (c*_=0)=false
  refine decide_eq_false (fun e => ?_)
  rcases Rat.mul_eq_zero.1 e with e|e
  ·exact hc e
  ·exact this e
theorem one_div_ne{c:Rat}(h:c≠0):1/c≠0:=by
 intro e
 have:=Rat.div_mul_cancel (a:=1) h
 rw[e,Rat.zero_mul] at this
 exact absurd this (by decide)
theorem monicL_of{p:List Rat}(hz:lastZ p=false)(h:p≠[]):monicL p=smulL (1/topL p) p:=by
 unfold monicL
 exact trimL_of (smulL_eval_inj hz _ (one_div_ne (top_ne hz h)))
theorem monicL_trim(p:List Rat):lastZ (monicL p)=false:=lastZ_trimL _
theorem monicL_len{p:List Rat}(hz:lastZ p=false):(monicL p).length=p.length:=by
 by_cases h:p=[]
 ·subst h;rfl
 ·rw[monicL_of hz h,len_smulL]
theorem monicL_eval{p:List Rat}(x:Rat):evalL (monicL p) x=1/topL p*evalL p x:=by
 unfold monicL
 rw[evalL_trimL,evalL_smulL]
theorem monicL_ne{p:List Rat}(hz:lastZ p=false)(h:p≠[]):monicL p≠[]:=by
 intro e
 have:=monicL_len hz
 rw[e] at this
 exact h (List.eq_nil_of_length_eq_zero this.symm)
theorem monicL_smul{p:List Rat}{c:Rat}(hz:lastZ p=false)(hc:c≠0):monicL (smulL c p)=monicL p:=by
 by_cases h:p=[]
 ·subst h;rfl
 ·have ht:=top_ne hz h
  have e:topL (smulL c p)=c*topL p:=by unfold topL;rw[len_smulL,coef_smulL]
  refine coef_inj (monicL_trim _) (monicL_trim _) (eval_coef (fun x => ?_))
  rw[monicL_eval,monicL_eval,e,evalL_smulL]
  have h1:=Rat.div_mul_cancel (a:=1) ht
  have hct:c*topL p≠0:=fun e=>by rcases Rat.mul_eq_zero.1 e with e|e;exact hc e;exact ht e
  have h2:=Rat.div_mul_cancel (a:=1) hct
  have h3:1/(c*topL p)*c=1/topL p:=by
   have:(1/(c*topL p)*c-1/topL p)*topL p=0:=by grind
   rcases Rat.mul_eq_zero.1 this with e|e
   ·grind
   ·exact absurd e ht
  grind
theorem monicL_idem{p:List Rat}(hz:lastZ p=false):monicL (monicL p)=monicL p:=by
 by_cases h:p=[]
 ·subst h;rfl
 ·rw[monicL_of hz h,monicL_smul hz (one_div_ne (top_ne hz h)),monicL_of hz h]
theorem rest_smul{p q:List Rat}{a b:Rat}(hz:lastZ q=false)(hq:q≠[])(ha:a≠0)(hb:b≠0):restL (smulL a p) (smulL b q)=smulL a (restL p q):=by
 obtain⟨g1,g2⟩:=divL_spec p hz hq
 obtain⟨t1,t2⟩:=divL_trim p q
 have hab:a/b≠0:=by
  intro e
  have:=Rat.div_mul_cancel (a:=a) hb
  rw[e,Rat.zero_mul] at this
  exact ha this.symm
 have:=div_uniq (p:=smulL a p) (q:=smulL b q) (a:=smulL (a/b) (divL p q).1) (r:=smulL a (divL p q).2) (smulL_eval_inj hz b hb) (by
  intro e;have:=congrArg List.length e;rw[len_smulL] at this;exact hq (List.eq_nil_of_length_eq_zero this)) (smulL_eval_inj t1 _ hab) (smulL_eval_inj t2 _ ha) (by rw[len_smulL,len_smulL];exact g1) (fun x=>by
  have h1:=g2 x
  have h2:=Rat.div_mul_cancel (a:=a) hb
  rw[evalL_smulL,evalL_smulL,evalL_smulL,evalL_smulL,←h1]
  grind)
 unfold restL
 rw[this]
theorem restL_trim(p q:List Rat):lastZ (restL p q)=false:=(divL_trim p q).2
theorem smulL_one(q:List Rat):smulL 1 q=q:=by
 unfold smulL
 conv=>rhs;rw[←List.map_id q]
 exact List.map_congr_left (fun x _=>Rat.one_mul x)
theorem rest_monic{p q:List Rat}(hp:lastZ p=false)(hq:lastZ q=false)(h:q≠[]):monicL (restL (monicL p) q)=monicL (restL p q):=by
 by_cases hp0:p=[]
 ·subst hp0;rfl
 ·rw[monicL_of hp hp0]
  have:=rest_smul (p:=p) (a:=1/topL p) (b:=1) hq h (one_div_ne (top_ne hp hp0)) (by decide)
  rw[smulL_one] at this
  rw[this,monicL_smul (restL_trim _ _) (one_div_ne (top_ne hp hp0))]
theorem rest_monic2{p q:List Rat}(hp:lastZ p=false)(hq:lastZ q=false)(h:q≠[]):monicL (restL (monicL p) (monicL q))=monicL (restL p q):=by
 have e:restL p (monicL q)=restL p q:=by
  rw[monicL_of hq h]
  have:=rest_smul (p:=p) (a:=1) (b:=1/topL q) hq h (by decide) (one_div_ne (top_ne hq h))
  rwa[smulL_one,smulL_one] at this
 rw[rest_monic hp (monicL_trim _) (monicL_ne hq h),e]
theorem gcdF_monic:∀(n:Nat) (p q:List Rat),lastZ p=false→lastZ q=false→monicL q=q→gcdF n (monicL p) q=monicL (gcdF n p q)
 |0,p,q,_,_,_=>rfl
 |n+1,p,q,hp,hq,hm=>by
  rw[gcdF,gcdF]
  by_cases h:q.length=0
  ·rw[beq_iff.2 h,cond_true,cond_true]
  ·have hne:q≠[]:=fun e=>h (by rw[e];rfl)
   rw[beq_fal.2 h,cond_false,cond_false,rest_monic hp hq hne]
   have ih:=gcdF_monic n q (monicL (restL p q)) hq (monicL_trim _) (monicL_idem (restL_trim _ _))
   rwa[hm] at ih
theorem gcd_ref(p q:List Rat)(hp:lastZ p=false)(hq:lastZ q=false):gcdF (q.length+1) (monicL p) (monicL q)=gcdL p q:=by
 unfold gcdL
 rw[gcdF,gcdF,monicL_len hq]
 by_cases h:q.length=0
 ·rw[beq_iff.2 h,cond_true,cond_true]
 ·have hne:q≠[]:=fun e=>h (by rw[e];rfl)
  rw[beq_fal.2 h,cond_false,cond_false,rest_monic2 hp hq hne]
  exact gcdF_monic _ q _ hq (monicL_trim _) (monicL_idem (restL_trim _ _))
theorem gcdF_trim:∀(n:Nat) (p q:List Rat),lastZ p=false→lastZ q=false→lastZ (gcdF n p q)=false
 |0,p,q,hp,_=>hp
 |n+1,p,q,hp,hq=>by
  rw[gcdF]
  cases Nat.beq q.length 0 with
  |true=>exact hp
  |false=>exact gcdF_trim n _ _ hq (monicL_trim _)
theorem gcdL_trim(p q:List Rat):lastZ (gcdL p q)=false:=monicL_trim _
theorem gcdF_ne:∀(n:Nat) (p q:List Rat),p≠[]∨(q≠[]∧0<n)→gcdF n p q≠[]
 |0,p,q,h=>by rcases h with h|⟨_,h⟩;exact h;omega
 |n+1,p,q,h=>by
  rw[gcdF]
  by_cases hq:q.length=0
  ·rw[beq_iff.2 hq,cond_true]
   rcases h with h|⟨h,_⟩
   ·exact h
   ·exact absurd (List.eq_nil_of_length_eq_zero hq) h
  ·rw[beq_fal.2 hq,cond_false]
   exact gcdF_ne n q _ (Or.inl (fun e=>hq (by rw[e];rfl)))
end Go.Proofs.YtboilcfohmmpbaaGreatDoor.Sym
namespace Go.Proofs.YtboilcfohmmpbaaGreatDoor.Sym
open Go Path CInt
set_option linter.unusedVariables false
def Dv(p q:List Rat):Prop:=∃u,∀x,evalL q x=evalL u x*evalL p x
theorem eval_c(c x:Rat):evalL [c] x=c:=by show 0*x+c=c;grind
theorem Dv.refl(p:List Rat):Dv p p:=⟨[1],fun x=>by rw[eval_c,Rat.one_mul]⟩
theorem Dv.trans{p q r:List Rat}(h:Dv p q)(k:Dv q r):Dv p r:=by
 obtain⟨u,hu⟩:=h
 obtain⟨v,hv⟩:=k
 exact⟨mulL v u,fun x=>by rw[hv,hu,evalL_mulL];grind⟩
theorem Dv.len{p q:List Rat}(h:Dv p q)(hp:lastZ p=false)(hq:lastZ q=false)(h0:q≠[]):p≠[]∧p.length≤q.length:=by
 obtain⟨u,hu⟩:=h
 have hpne:p≠[]:=by
  intro e
  subst e
  have:∀i,coef q i=coef [] i:=eval_coef (fun x=>by rw[hu];show _*(0:Rat)=0;rw[Rat.mul_zero])
  exact h0 (coef_inj hq rfl this)
 have hune:trimL u≠[]:=by
  intro e
  have:∀i,coef q i=coef [] i:=eval_coef (fun x=>by rw[hu,←evalL_trimL x u,e];show(0:Rat)*_=0;rw[Rat.zero_mul])
  exact h0 (coef_inj hq rfl this)
 refine⟨hpne,?_⟩
 have h1:=coef_mul_top _ p hune hpne
 have h2:=eval_coef (p:=mulL (trimL u) p) (q:=q) (fun x=>by rw[evalL_mulL,evalL_trimL,hu])
 rw[h2] at h1
 have h3:coef q ((trimL u).length+p.length-2)≠0:=by
  rw[h1]
  intro e
  rcases Rat.mul_eq_zero.1 e with e|e
  ·exact top_ne (lastZ_trimL _) hune e
  ·exact top_ne hp hpne e
 have:=top_of_coef h3
 have:=List.length_pos_iff.2 hune
 omega
theorem monic_dv{p:List Rat}(hz:lastZ p=false):Dv (monicL p) p:=by
 by_cases h:p=[]
 ·subst h;exact Dv.refl _
 ·refine⟨[topL p],fun x => ?_⟩
  rw[eval_c,monicL_eval]
  have:=Rat.div_mul_cancel (a:=1) (top_ne hz h)
  grind
theorem gcdF_bez:∀(n:Nat) (p q:List Rat),lastZ p=false→lastZ q=false→∃u v,∀x,evalL (gcdF n p q) x=evalL u x*evalL p x+evalL v x*evalL q x
 |0,p,q,_,_=>⟨[1],[],fun x=>by rw[eval_c];show _=_+(0:Rat)*_;rw[gcdF];grind⟩
 |n+1,p,q,hp,hq=>by
  rw[gcdF]
  by_cases h:q.length=0
  ·rw[beq_iff.2 h,cond_true]
   exact⟨[1],[],fun x=>by rw[eval_c];show _=_+(0:Rat)*_;grind⟩
  ·have hne:q≠[]:=fun e=>h (by rw[e];rfl)
   rw[beq_fal.2 h,cond_false]
   obtain⟨u,v,e⟩:=gcdF_bez n q (monicL (restL p q)) hq (monicL_trim _)
   obtain⟨g1,g2⟩:=divL_spec p hq hne
   refine⟨smulL (1/topL (restL p q)) v,addL u (smulL (-(1/topL (restL p q))) (mulL v (divL p q).1)),fun x => ?_⟩
   have h2:evalL (divL p q).1 x*evalL q x+evalL (restL p q) x=evalL p x:=g2 x
   rw[e x,monicL_eval,evalL_addL,evalL_smulL,evalL_smulL,evalL_mulL,←h2]
   grind
theorem gcdF_dv:∀(n:Nat) (p q:List Rat),lastZ p=false→lastZ q=false→q.length<n→Dv (gcdF n p q) p∧Dv (gcdF n p q) q
 |0,p,q,_,_,h=>by omega
 |n+1,p,q,hp,hq,hn=>by
  rw[gcdF]
  by_cases h:q.length=0
  ·rw[beq_iff.2 h,cond_true,List.eq_nil_of_length_eq_zero h]
   exact⟨Dv.refl p,[],fun x=>by show(0:Rat)=0*_;rw[Rat.zero_mul]⟩
  ·have hne:q≠[]:=fun e=>h (by rw[e];rfl)
   rw[beq_fal.2 h,cond_false]
   obtain⟨g1,g2⟩:=divL_spec p hq hne
   obtain⟨d1,d2⟩:=gcdF_dv n q (monicL (restL p q)) hq (monicL_trim _) (by rw[monicL_len (restL_trim _ _)];unfold restL;omega)
   have d3:=d2.trans (monic_dv (restL_trim p q))
   refine⟨?_,d1⟩
   obtain⟨a,ha⟩:=d1
   obtain⟨b,hb⟩:=d3
   refine⟨addL (mulL (divL p q).1 a) b,fun x => ?_⟩
   have h2:evalL (divL p q).1 x*evalL q x+evalL (restL p q) x=evalL p x:=g2 x
   rw[←h2,evalL_addL,evalL_mulL,hb x]
   have:=ha x
   rw[this];grind
theorem gcdL_bez(p q:List Rat)(hp:lastZ p=false)(hq:lastZ q=false):∃u v,∀x,evalL (gcdL p q) x=evalL u x*evalL p x+evalL v x*evalL q x:=by
 obtain⟨u,v,e⟩:=gcdF_bez (q.length+1) p q hp hq
 unfold gcdL
 refine⟨smulL (1/topL (gcdF (q.length+1) p q)) u,smulL (1/topL (gcdF (q.length+1) p q)) v,fun x => ?_⟩
 rw[monicL_eval,evalL_smulL,evalL_smulL,e x];grind
theorem gcdL_dv(p q:List Rat)(hp:lastZ p=false)(hq:lastZ q=false):Dv (gcdL p q) p∧Dv (gcdL p q) q:=by
 obtain⟨h1,h2⟩:=gcdF_dv (q.length+1) p q hp hq (Nat.lt_succ_self _)
 have h3:=monic_dv (gcdF_trim (q.length+1) p q hp hq)
 exact⟨h3.trans h1,h3.trans h2⟩
theorem deriveL_lt2{p:List Rat}(h:p≠[]):(deriveL p).length<p.length:=by
 have h1:=len_trimL (derI 1 (p.drop 1))
 rw[derI_len,List.length_drop] at h1
 have:=List.length_pos_iff.2 h
 have h2:(deriveL p).length≤p.length-1:=h1
 omega
end Go.Proofs.YtboilcfohmmpbaaGreatDoor.Sym
namespace Go.Proofs.YtboilcfohmmpbaaGreatDoor.Sym
open Go Path CInt
set_option linter.unusedVariables false
def Ch(h:Nat)(p:List Rat):Prop:=∃D:Int,D≠0∧wl D≤h∧∀i,∃n:Int,coef p i*(D:Rat)=(n:Rat)∧wl n≤h
theorem cast_ne{D:Int}(h:D≠0):(D:Rat)≠0:=fun e=>h (Rat.intCast_inj.1 (by rw[e];rfl))
theorem mul_right_inj'{a b c:Rat}(hc:c≠0)(h:a*c=b*c):a=b:=by
 have:(a-b)*c=0:=by grind
 rcases Rat.mul_eq_zero.1 this with e|e
 ·grind
 ·exact absurd e hc
theorem ht_of_mul{x:Rat}{n D:Int}(hD:D≠0)(h:x*(D:Rat)=(n:Rat)):ht x≤max (wl n) (max (wl D) 1):=by
 have e:x=Rat.divInt n D:=by
  rw[Rat.divInt_eq_div]
  refine mul_right_inj' (cast_ne hD) ?_
  rw[h,Rat.div_mul_cancel (cast_ne hD)]
 rw[e];exact ht_divInt n D
theorem Ch.mono{h k:Nat}{p:List Rat}(hp:Ch h p)(hk:h≤k):Ch k p:=by
 obtain⟨D,h1,h2,h3⟩:=hp
 refine⟨D,h1,by omega,fun i => ?_⟩
 obtain⟨n,a,b⟩:=h3 i
 exact⟨n,a,by omega⟩
theorem Ch.ht{h:Nat}{p:List Rat}(hp:Ch h p)(i:Nat):ht (coef p i)≤max h 1:=by
 obtain⟨D,h1,h2,h3⟩:=hp
 obtain⟨n,a,b⟩:=h3 i
 have:=ht_of_mul h1 a
 omega
theorem Ch.fl{h:Nat}{p:List Rat}(hp:Ch h p)(h1:1≤h):Fl h p:=fl_of_coef (fun i=>by have:=hp.ht i;omega)
theorem Ch.congr{h:Nat}{p q:List Rat}(hp:Ch h p)(e:∀i,coef p i=coef q i):Ch h q:=by
 obtain⟨D,h1,h2,h3⟩:=hp
 refine⟨D,h1,h2,fun i => ?_⟩
 rw[←e i];exact h3 i
theorem Ch.trim{h:Nat}{p:List Rat}(hp:Ch h p):Ch h (trimL p):=hp.congr (fun i=>(coef_trimL p i).symm)
theorem Ch.nil{h:Nat}(h1:1≤h):Ch h []:=⟨1,by decide,by rw[wl_one];exact h1,fun i=>⟨0,by rw[coef_nil,Rat.zero_mul];rfl,Nat.zero_le _⟩⟩
theorem Ch.cons{h k:Nat}{a:Rat}{p:List Rat}(hp:Ch h p)(ha:Sym.ht a≤k):Ch (h+k) (a::p):=by
 obtain⟨D,h1,h2,h3⟩:=hp
 have hd:=ht_den a
 have hn:=ht_num a
 have hdz:(a.den:Int)≠0:=by have:=a.den_nz;omega
 have hden:a*((a.den:Int):Rat)=(a.num:Rat):=by
  have:a=Rat.divInt a.num a.den:=(Rat.num_divInt_den a).symm
  conv=>lhs;lhs;rw[this]
  rw[Rat.divInt_eq_div,Rat.div_mul_cancel (cast_ne hdz)]
 have hm:=wl_mul D a.den
 refine⟨D*a.den,by intro e;rcases Int.mul_eq_zero.1 e with e|e;exact h1 e;exact hdz e,by omega,fun i => ?_⟩
 cases i with
 |zero =>
  refine⟨a.num*D,?_,by have:=wl_mul a.num D;omega⟩
  rw[coef_zero,Rat.intCast_mul,Rat.intCast_mul,←hden];grind
 |succ i =>
  obtain⟨n,e1,e2⟩:=h3 i
  refine⟨n*a.den,?_,by have:=wl_mul n a.den;omega⟩
  rw[coef_succ,Rat.intCast_mul,Rat.intCast_mul,←e1];grind
theorem Ch.of_fl{k:Nat} : ∀{p:List Rat},Fl k p→Ch (p.length*k+1) p
 |[],_=>Ch.nil (by omega)
 |a::r,h=>by
  have:=(Ch.of_fl (fun x hx=>h x (List.mem_cons_of_mem _ hx))).cons (h a (List.mem_cons_self ..))
  rw[List.length_cons,Nat.add_mul,Nat.one_mul]
  exact this.mono (by omega)
theorem Ch.smul_monic{h:Nat}{p:List Rat}(hp:Ch h p)(ht:topL p≠0):Ch h (smulL (1/topL p) p):=by
 obtain⟨D,h1,h2,h3⟩:=hp
 obtain⟨t,e1,e2⟩:=h3 (p.length-1)
 have e1:topL p*(D:Rat)=(t:Rat):=e1
 have ht0:t≠0:=by
  intro e
  rw[e] at e1
  rcases Rat.mul_eq_zero.1 e1 with e|e
  ·exact ht e
  ·exact cast_ne h1 e
 refine⟨t,ht0,e2,fun i => ?_⟩
 obtain⟨n,g1,g2⟩:=h3 i
 refine⟨n,?_,g2⟩
 have:=Rat.div_mul_cancel (a:=1) ht
 rw[coef_smulL,←g1,←e1]
 grind
theorem Ch.monic{h:Nat}{p:List Rat}(hp:Ch h p)(h1:1≤h)(hz:lastZ p=false):Ch h (monicL p):=by
 by_cases e:p=[]
 ·subst e;exact Ch.nil h1
 ·exact(hp.smul_monic (top_ne hz e)).trim
theorem Ch.smul{h k:Nat}{c:Rat}{p:List Rat}(hp:Ch h p)(hc:Sym.ht c≤k):Ch (h+k) (smulL c p):=by
 obtain⟨D,h1,h2,h3⟩:=hp
 have hd:=ht_den c
 have hn:=ht_num c
 have hdz:(c.den:Int)≠0:=by have:=c.den_nz;omega
 have hden:c*((c.den:Int):Rat)=(c.num:Rat):=by
  have:c=Rat.divInt c.num c.den:=(Rat.num_divInt_den c).symm
  conv=>lhs;lhs;rw[this]
  rw[Rat.divInt_eq_div,Rat.div_mul_cancel (cast_ne hdz)]
 have hm:=wl_mul D c.den
 refine⟨D*c.den,by intro e;rcases Int.mul_eq_zero.1 e with e|e;exact h1 e;exact hdz e,by omega,fun i => ?_⟩
 obtain⟨n,e1,e2⟩:=h3 i
 refine⟨c.num*n,?_,by have:=wl_mul c.num n;omega⟩
 rw[coef_smulL,Rat.intCast_mul,Rat.intCast_mul,←e1,←hden];grind
theorem Ch.add{h k:Nat}{p q:List Rat}(hp:Ch h p)(hq:Ch k q):Ch (h+k+1) (addL p q):=by
 obtain⟨D,h1,h2,h3⟩:=hp
 obtain⟨E,g1,g2,g3⟩:=hq
 have hm:=wl_mul D E
 refine⟨D*E,by intro e;rcases Int.mul_eq_zero.1 e with e|e;exact h1 e;exact g1 e,by omega,fun i => ?_⟩
 obtain⟨n,e1,e2⟩:=h3 i
 obtain⟨m,f1,f2⟩:=g3 i
 refine⟨n*E+m*D,?_,by have:=wl_mul n E;have:=wl_mul m D;have:=wl_add (n*E) (m*D);omega⟩
 rw[coef_addL,Rat.intCast_mul,Rat.intCast_add,Rat.intCast_mul,Rat.intCast_mul,←e1,←f1];grind
theorem Ch.step{h b:Nat}{rest q:List Rat}(hr:Ch h rest)(hq:Ch b q)(hz:topL q≠0):Ch (h+b+1) (stepR rest q):=by
 refine Ch.trim ?_
 obtain⟨D,h1,h2,h3⟩:=hr
 obtain⟨E,g1,g2,g3⟩:=hq
 obtain⟨u,u1,u2⟩:=g3 (q.length-1)
 obtain⟨t,t1,t2⟩:=h3 (rest.length-1)
 have u1:topL q*(E:Rat)=(u:Rat):=u1
 have t1:topL rest*(D:Rat)=(t:Rat):=t1
 have hu0:u≠0:=by
  intro e
  rw[e] at u1
  rcases Rat.mul_eq_zero.1 u1 with e|e
  ·exact hz e
  ·exact cast_ne g1 e
 have hc:=stepC_mul (rest:=rest) hz
 have hm:=wl_mul D u
 refine⟨D*u,by intro e;rcases Int.mul_eq_zero.1 e with e|e;exact h1 e;exact hu0 e,by omega,fun i => ?_⟩
 obtain⟨n,e1,e2⟩:=h3 i
 rw[coef_addL,coef_shiftL,coef_smulL]
 by_cases hi:i<rest.length-q.length
 ·rw[if_pos hi]
  refine⟨n*u,?_,by have:=wl_mul n u;omega⟩
  rw[Rat.intCast_mul,Rat.intCast_mul,←e1];grind
 ·rw[if_neg hi]
  obtain⟨m,f1,f2⟩:=g3 (i-(rest.length-q.length))
  refine⟨n*u + -(t*m),?_,by have:=wl_mul n u;have:=wl_mul t m;have:=wl_neg (t*m);have:=wl_add (n*u) (-(t*m));omega⟩
  rw[Rat.intCast_mul,Rat.intCast_add,Rat.intCast_mul,Rat.intCast_neg,Rat.intCast_mul,←e1,←f1,←t1,←u1,←hc];grind
theorem divF_rest{b:Nat}{q:List Rat}(hq:Ch b q)(hz:topL q≠0)(hq0:q.length≠0):∀(n h:Nat) (out rest:List Rat),Ch h rest→Ch (h+(rest.length+1-q.length)*(b+1)) (divF n out rest q).2
 |0,h,out,rest,hr=>hr.mono (by omega)
 |n+1,h,out,rest,hr=>by
  rw[divF]
  cases hb:Nat.blt rest.length q.length with
  |true=>exact hr.mono (by omega)
  |false =>
   have hl:=blt_fal.1 hb
   have h1:=stepR_len hz hq0 hl
   have ih:=divF_rest hq hz hq0 n (h+b+1) (trimL (addL out (shiftL (rest.length-q.length) [stepC rest q]))) (stepR rest q) (hr.step hq hz)
   refine ih.mono ?_
   have e:rest.length+1-q.length=(rest.length-q.length)+1:=by omega
   have h2:((stepR rest q).length+1-q.length)*(b+1)≤(rest.length-q.length)*(b+1):=Nat.mul_le_mul_right _ (by omega)
   rw[e,Nat.add_mul,Nat.one_mul]
   omega
theorem divF_out{b M:Nat}{q:List Rat}(hq:Ch b q)(hb1:1≤b)(hz:topL q≠0)(hq0:q.length≠0):∀(n h:Nat) (out rest:List Rat),1≤h→Ch h rest→h+(rest.length+1-q.length)*(b+1)≤M→(∀i,i+q.length≤rest.length→coef out i=0)→(∀i,ht (coef out i)≤M+b)→∀i,ht (coef (divF n out rest q).1 i)≤M+b
 |0,h,out,rest,_,_,_,_,ho=>ho
 |n+1,h,out,rest,h1,hr,hM,hc0,ho=>by
  rw[divF]
  cases hb:Nat.blt rest.length q.length with
  |true=>exact ho
  |false =>
   have hl:=blt_fal.1 hb
   have hs:=stepR_len hz hq0 hl
   have e:rest.length+1-q.length=(rest.length-q.length)+1:=by omega
   have h2:((stepR rest q).length+1-q.length)*(b+1)≤(rest.length-q.length)*(b+1):=Nat.mul_le_mul_right _ (by omega)
   rw[e,Nat.add_mul,Nat.one_mul] at hM
   have cc:∀i,coef (trimL (addL out (shiftL (rest.length-q.length) [stepC rest q]))) i=if i=rest.length-q.length then stepC rest q else coef out i:=by
    intro i
    rw[coef_trimL,coef_addL,coef_shiftL]
    by_cases h3:i=rest.length-q.length
    ·rw[if_pos h3,if_neg (by omega),hc0 i (by omega),h3,Nat.sub_self,coef_zero,Rat.zero_add]
    ·rw[if_neg h3]
     split
     ·rw[Rat.add_zero]
     ·rw[coef_ge (p:=[stepC rest q]) (by simp;omega),Rat.add_zero]
   refine divF_out hq hb1 hz hq0 n (h+b+1) _ (stepR rest q) (by omega) (hr.step hq hz) (by omega) (fun i hi => ?_) (fun i => ?_)
   ·rw[cc,if_neg (by omega)]
    exact hc0 i (by omega)
   ·rw[cc]
    split
    ·unfold stepC
     have a1:=ht_div (topL rest) (topL q)
     have a2:=hr.ht (rest.length-1)
     have a3:=hq.ht (q.length-1)
     have a2:ht (topL rest)≤max h 1:=a2
     have a3:ht (topL q)≤max b 1:=a3
     omega
    ·exact ho i
theorem Ch.rest{h b:Nat}{p q:List Rat}(hp:Ch h p)(hq:Ch b q)(hz:lastZ q=false)(hq0:q≠[]):Ch (h+(p.length+1-q.length)*(b+1)) (restL p q):=by
 have:=divF_rest hq (top_ne hz hq0) (by intro e;exact hq0 (List.eq_nil_of_length_eq_zero e)) (p.length+1) h [] (trimL p) hp.trim
 refine Ch.mono this ?_
 have h1:=len_trimL p
 have:((trimL p).length+1-q.length)*(b+1)≤(p.length+1-q.length)*(b+1):=Nat.mul_le_mul_right _ (by omega)
 omega
theorem ht_quot{h b:Nat}{p q:List Rat}(hp:Ch h p)(hq:Ch b q)(h1:1≤h)(hb1:1≤b)(hz:lastZ q=false)(hq0:q≠[]):Fl (h+(p.length+1-q.length)*(b+1)+b) (divL p q).1:=by
 have hl:=len_trimL p
 have h2:((trimL p).length+1-q.length)*(b+1)≤(p.length+1-q.length)*(b+1):=Nat.mul_le_mul_right _ (by omega)
 exact fl_of_coef (divF_out hq hb1 (top_ne hz hq0) (by intro e;exact hq0 (List.eq_nil_of_length_eq_zero e)) (p.length+1) h [] (trimL p) h1 hp.trim (by omega) (fun i _=>rfl) (fun i=>Nat.le_trans (Nat.le_of_eq ht_zero) (by omega)))
theorem divL_len{p q:List Rat}(hz:lastZ q=false)(hq0:q≠[]):(divL p q).1.length≤p.length+1-q.length:=by
 have key:∀(n:Nat) (out rest:List Rat),rest.length≤p.length→out.length≤p.length+1-q.length→(divF n out rest q).1.length≤p.length+1-q.length:=by
  intro n
  induction n with
  |zero=>intro out rest _ h;exact h
  |succ n ih =>
   intro out rest h1 h2
   rw[divF]
   cases hb:Nat.blt rest.length q.length with
   |true=>exact h2
   |false =>
    have hl:=blt_fal.1 hb
    have hs:=stepR_len (top_ne hz hq0) (by intro e;exact hq0 (List.eq_nil_of_length_eq_zero e)) hl
    refine ih _ _ (by omega) ?_
    have h3:=len_trimL (addL out (shiftL (rest.length-q.length) [stepC rest q]))
    rw[len_addL] at h3
    unfold shiftL at h3
    rw[List.length_append,List.length_replicate] at h3
    simp only[List.length_cons,List.length_nil] at h3
    unfold shiftL
    omega
 exact key _ _ _ (len_trimL p) (by simp)
def xB(a b:Nat):Nat→Nat
 |0=>a
 |1=>b
 |j+2=>xB a b j+2*(xB a b (j+1)+1)
theorem xB_mono(a b:Nat)(h:a≤b):∀j,xB a b j≤xB a b (j+1)
 |0=>h
 |j+1=>by rw[xB];omega
theorem xB_le(a b:Nat)(h:a≤b){i j:Nat}(hij:i≤j):xB a b i≤xB a b j:=by
 induction hij with
 |refl=>exact Nat.le_refl _
 |step _ ih=>exact Nat.le_trans ih (xB_mono a b h _)
theorem xB_gap(a b:Nat)(h:a≤b)(j:Nat):∀d,xB a b j+(d+2)*(xB a b (j+1)+1)≤xB a b (j+1+(d+1))
 |0=>Nat.le_refl _
 |d+1=>by
  have ih:=xB_gap a b h j d
  have h1:=xB_le a b h (i:=j+1) (j:=j+1+d) (by omega)
  have e:xB a b (j+1+(d+1+1))=xB a b (j+1+d)+2*(xB a b (j+1+(d+1))+1):=rfl
  rw[e]
  have e2:(d+1+2)*(xB a b (j+1)+1)=(d+2)*(xB a b (j+1)+1)+(xB a b (j+1)+1):=by rw[show d+1+2=(d+2)+1 from by omega,Nat.add_mul,Nat.one_mul]
  rw[e2]
  omega
structure Euc (a b N i j:Nat) (p q:List Rat):Prop where
 hp:Ch (xB a b i) p
 hq:Ch (xB a b j) q
 lt:i<j
 len:q.length<p.length
 bound:j+p.length≤N+1
 zp:lastZ p=false
 zq:lastZ q=false
theorem Euc.rest{a b N i j:Nat}{p q:List Rat}(e:Euc a b N i j p q)(hab:a≤b)(hq0:q≠[]):Ch (xB a b (j+(p.length-q.length))) (restL p q)∧(restL p q).length<q.length:=by
 have h1:=e.hp.rest e.hq e.zq hq0
 have hl:=(divL_spec p e.zq hq0).1
 have hlen:=e.len
 have hlt:=e.lt
 refine⟨h1.mono ?_,hl⟩
 obtain⟨j',rfl⟩:∃j',j=j'+1:=⟨j-1,by omega⟩
 obtain⟨d,hd⟩:∃d,p.length-q.length=d+1:=⟨p.length-q.length-1,by omega⟩
 have h2:=xB_le a b hab (i:=i) (j:=j') (by omega)
 have h3:=xB_gap a b hab j' d
 rw[hd,show p.length+1-q.length=d+2 from by omega]
 omega
theorem Euc.next{a b N i j:Nat}{p q r:List Rat}(e:Euc a b N i j p q)(hab:a≤b)(hq0:q≠[])(hr:Ch (xB a b (j+(p.length-q.length))) r)(hl:r.length<q.length)(hz:lastZ r=false):Euc a b N j (j+(p.length-q.length)) q r:=by
 have:=e.len
 have:=e.bound
 exact⟨e.hq,hr,by omega,hl,by omega,e.zq,hz⟩
theorem Euc.idx{a b N i j:Nat}{p q:List Rat}(e:Euc a b N i j p q):j≤N+1:=by have:=e.bound;omega
end Go.Proofs.YtboilcfohmmpbaaGreatDoor.Sym
namespace Go.Proofs.YtboilcfohmmpbaaGreatDoor.Sym.Rs
open Go Dt
def syl(p q:List Rat):Mx:=fun i k =>
 if i<q.length-1 then coef (shiftL (q.length-1-1-i) p) (p.length-1+(q.length-1)-1-k)
 else coef (shiftL (p.length-1-1-(i-(q.length-1))) q) (p.length-1+(q.length-1)-1-k)
def res(p q:List Rat):Rat:=D (p.length-1+(q.length-1)) (syl p q)
theorem sumN_head(f:Nat→Rat):∀n,sumN (n+1) f=f 0+sumN n (fun i=>f (i+1))
 |0=>by show(0:Rat)+f 0=f 0+0;grind
 |n+1=>by rw[sumN,sumN_head f n,sumN];grind
theorem sumN_rev(f:Nat→Rat):∀n,sumN n f=sumN n (fun i=>f (n-1-i))
 |0=>rfl
 |n+1=>by
  rw[sumN_head (fun i=>f (n+1-1-i)),sumN,sumN_rev f n]
  have:sumN n (fun i=>f (n-1-i))=sumN n (fun i=>f (n+1-1-(i+1))):=sumN_congr (fun i _=>by rw[show n-1-i=n+1-1-(i+1) by omega])
  rw[this]
  show _+f n=f (n+1-1-0)+_
  rw[show n+1-1-0=n by omega];grind
theorem sumN_mul(c:Rat)(f:Nat→Rat)(n:Nat):c*sumN n f=sumN n (fun i=>c*f i):=by
 have:=sumN_lin c (fun _=>0) f n
 rw[sumN_zero (f:=fun _=>0) (fun _ _=>rfl)] at this
 have e:sumN n (fun i=>c*f i)=sumN n (fun i=>0+c*f i):=sumN_congr fun i _=>by grind
 rw[e,this];grind
theorem eval_sum(x:Rat):∀(n:Nat) (p:List Rat),p.length≤n→evalL p x=sumN n (fun j=>coef p j*x^j)
 |0,p,h=>by
  have:p=[]:=List.eq_nil_of_length_eq_zero (by omega)
  subst this;rfl
 |n+1,[],_=>by
  rw[sumN_zero (fun i _=>by rw[coef_nil];grind)];rfl
 |n+1,a::p,h=>by
  rw[sumN_head]
  have e:sumN n (fun i=>coef (a::p) (i+1)*x^(i+1))=x*sumN n (fun i=>coef p i*x^i):=by
   rw[sumN_mul]
   exact sumN_congr fun i _=>by rw[coef_succ,Rat.pow_succ];grind
  rw[e,←eval_sum x n p (by simpa using h),coef_zero,Rat.pow_zero]
  show evalL p x*x+a=_
  grind
theorem eval_sumr(x:Rat){n:Nat}{p:List Rat}(h:p.length≤n):evalL p x=sumN n (fun j=>coef p (n-1-j)*x^(n-1-j)):=by
 rw[eval_sum x n p h,sumN_rev]
def combL(f:Nat→Rat)(g:Nat→List Rat):Nat→List Rat
 |0=>[]
 |t+1=>addL (combL f g t) (smulL (f t) (g t))
theorem combL_eval(f:Nat→Rat)(g:Nat→List Rat)(x:Rat):∀t,evalL (combL f g t) x=sumN t (fun j=>f j*evalL (g j) x)
 |0=>rfl
 |t+1=>by rw[combL,evalL_addL,evalL_smulL,combL_eval f g x t,sumN]
theorem combL_coef(f:Nat→Rat)(g:Nat→List Rat)(i:Nat):∀t,coef (combL f g t) i=sumN t (fun j=>f j*coef (g j) i)
 |0=>rfl
 |t+1=>by rw[combL,coef_addL,coef_smulL,combL_coef f g i t,sumN]
theorem rem_coef{P q a r:List Rat}(hz:lastZ q=false)(hq0:q≠[])(hl:r.length<q.length)(h:∀x,evalL a x*evalL q x+evalL r x=evalL P x)(i:Nat):coef (restL P q) i=coef r i:=by
 have hlt:(trimL r).length≤r.length:=len_trim_le (fun i hi=>coef_ge hi)
 have:=div_uniq (p:=P) (q:=q) (a:=trimL a) (r:=trimL r) hz hq0 (lastZ_trimL _) (lastZ_trimL _) (by omega) (fun x=>by rw[evalL_trimL,evalL_trimL];exact h x)
 unfold restL
 rw[this]
 exact coef_trimL r i
theorem rest_len{P q:List Rat}(hz:lastZ q=false)(hq0:q≠[]):(restL P q).length≤q.length-1:=by
 have:=(divL_spec P hz hq0).1
 unfold restL;omega
theorem rest_eval{P q:List Rat}(hz:lastZ q=false)(hq0:q≠[])(x:Rat):evalL (divL P q).1 x*evalL q x+evalL (restL P q) x=evalL P x:=(divL_spec P hz hq0).2 x
theorem mul_sum{a q:List Rat}{m:Nat}(h:a.length≤m)(i:Nat):coef (mulL a q) i=sumN m (fun s=>coef a (m-1-s)*coef (shiftL (m-1-s) q) i):=by
 rw[←combL_coef (fun s=>coef a (m-1-s)) (fun s=>shiftL (m-1-s) q)]
 refine eval_coef (fun x => ?_) i
 rw[evalL_mulL,combL_eval,eval_sumr x h,Rat.mul_comm,sumN_mul]
 exact sumN_congr fun j _=>by rw[evalL_shiftL];grind
theorem top_mul_len{P a b:List Rat}(hzP:lastZ P=false)(ha:lastZ a=false)(hb:lastZ b=false)(ha0:a≠[])(hb0:b≠[])(h:∀x,evalL P x=evalL a x*evalL b x):P.length=a.length+b.length-1:=by
 have hc:∀i,coef P i=coef (mulL a b) i:=eval_coef (fun x=>by rw[evalL_mulL];exact h x)
 have hal:a.length≠0:=fun e=>ha0 (List.eq_nil_of_length_eq_zero e)
 have hbl:b.length≠0:=fun e=>hb0 (List.eq_nil_of_length_eq_zero e)
 have htop:=coef_mul_top a b ha0 hb0
 have hne:topL a*topL b≠0:=fun e=>by
  rcases Rat.mul_eq_zero.1 e with e|e
  ·exact top_ne ha ha0 e
  ·exact top_ne hb hb0 e
 have h1:a.length+b.length-2<P.length:=top_of_coef (by rw[hc,htop];exact hne)
 have h2:(trimL P).length≤a.length+b.length-1:=len_trim_le (fun i hi=>by
  rw[hc,mul_sum (Nat.le_refl a.length)]
  refine sumN_zero (fun s hs => ?_)
  rw[coef_shiftL]
  split
  ·grind
  ·rw[coef_ge (p:=b) (by omega)];grind)
 have h3:trimL P=P:=coef_inj (lastZ_trimL P) hzP (coef_trimL P)
 rw[h3] at h2
 omega
end Go.Proofs.YtboilcfohmmpbaaGreatDoor.Sym.Rs
namespace Go.Proofs.YtboilcfohmmpbaaGreatDoor.Sym
open Go Path CInt
set_option linter.unusedVariables false
abbrev pq(q:List Rat):PV:=polyPV (q.map mkR)
theorem getM{q:List Rat}{n:Nat}{v:Rat}(h:q[n]? = some v):(q.map mkR)[n]? = some (mkR v):=by rw[List.getElem?_map,h];rfl
theorem lenM(q:List Rat):(q.map mkR).length=q.length:=List.length_map ..
theorem fitQ{k:Nat}{q:List Rat}(h:Fl k q)(hk:k≤68719476736):FitP 274877906944 (q.map mkR):=fit_map (fl_mono h (by omega))
def chk2(p q:List ARat):Int:=if chk p=0 then chk q else chk p
theorem tab_step{m t:Nat}{f g:Nat→Rat}{v:Rat}(ht:t<m)(hv:f t=v)(ho:∀i,i≠t→f i=g i):((tabL m g).map mkR).set t (mkR v)=(tabL m f).map mkR:=by
 rw[←List.map_set,tabL_set g v ht]
 congr 1
 refine tabL_congr (fun i _ => ?_)
 split
 ·rename_i e;rw[e,hv]
 ·rename_i e;exact(ho i e).symm
theorem ht_mul_take{a b n:Nat}{p q:List Rat}(hp:Fl a p)(hq:Fl b q)(ha:1≤a)(hb:1≤b)(hn:p.length≤n∨q.length≤n)(t i:Nat):ht (coef (mulL (p.take t) q) i)≤n*(a+b+1)+1:=by
 have hpt:∀i,ht (coef (p.take t) i)≤a:=fl_coef (fun x hx=>hp x (List.mem_of_mem_take hx)) ha
 rcases hn with h|h
 ·have h1:=ht_mul_coef (p.take t) q i hpt (fl_coef hq hb)
  have h2:(p.take t).length*(a+b+1)≤n*(a+b+1):=Nat.mul_le_mul_right _ (by rw[List.length_take];omega)
  omega
 ·rw[coef_mul_comm]
  have h1:=ht_mul_coef q (p.take t) i (fl_coef hq hb) hpt
  have h2:q.length*(b+a+1)≤n*(b+a+1):=Nat.mul_le_mul_right _ h
  rw[Nat.add_comm b a] at h1 h2
  omega
namespace CPl
theorem Trim{k:Nat}(q:List Rat)(hl:q.length≤1000000)(hf:Fl k q)(hk:k≤68719476736):Contract prg 105 [pq q] (pq (trimL q)):=by
 have:=CPo.Trim (q.map mkR) (by rw[lenM];omega) (fitQ hf hk)
 rwa[vals_mkR] at this
theorem coefficient(p:List Rat)(t:Nat):Contract prg 147 [pq p,vI (t:Int)] (mkR (coef p t)).pv:=by
 by_cases h:t<p.length
 ·exact poly_coefficient.e0 _ _ t _ (by rw[lenM];omega) rfl (getM (coef_get h))
 ·rw[coef_ge (by omega)]
  exact poly_coefficient.e1 _ _ (by rw[lenM];omega)
theorem plus{a b d:Nat}(p q:List Rat)(c:Rat)(hlp:p.length≤100000)(hlq:q.length≤100000)(hp:Fl a p)(hq:Fl b q)(hc:ht c≤d)(ha:1≤a)(hb:1≤b)(hk:a+b+d+1≤68719476736):Contract prg 118 [pq p,pq q,(mkR c).pv] (pq (trimL (addL p (smulL c q)))):=by
 have hcoef:∀i,ht (coef p i)≤a∧ht (coef q i)≤b:=fun i=>⟨fl_coef hp ha i,fl_coef hq hb i⟩
 have hmax:max (p.map mkR).length (q.map mkR).length=max p.length q.length:=by rw[lenM,lenM]
 have loop:∀(j t:Nat),max p.length q.length-t=j→poly_plus.Loop1 (p.map mkR) (q.map mkR) t (mkR c) ((tabL (max p.length q.length) (fun i=>if i<t then coef p i+c*coef q i else 0)).map mkR) (pq (trimL (addL p (smulL c q)))):=by
  intro j
  induction j with
  |zero =>
   intro t hj
   have e:trimL (addL p (smulL c q))=trimL (tabL (max p.length q.length) (fun i=>if i<t then coef p i+c*coef q i else 0)):=by
    refine trimL_ext (fun i => ?_)
    rw[coef_addL,coef_smulL]
    by_cases hi:i<max p.length q.length
    ·rw[coef_of (tabL_get _ hi),if_pos (by omega)]
    ·rw[coef_ge (p:=tabL _ _) (by rw[tabL_len];omega),coef_ge (p:=p) (by omega),coef_ge (p:=q) (by omega)];grind
   rw[e]
   refine poly_plus.l11 _ _ t _ _ _ (by omega) (by rw[hmax,lenM,tabL_len]) (Trim (k:=a+b+d+1) _ (by rw[tabL_len];omega) (fl_of_coef (fun i => ?_)) hk)
   obtain⟨c1,c2⟩:=hcoef i
   have h1:=ht_mul c (coef q i)
   have h2:=ht_add (coef p i) (c*coef q i)
   have h0:=ht_zero
   by_cases hi:i<max p.length q.length
   ·rw[coef_of (tabL_get _ hi),if_pos (by omega)];omega
   ·rw[coef_ge (p:=tabL _ _) (by rw[tabL_len];omega),h0];omega
  |succ j ih =>
   intro t hj
   obtain⟨c1,c2⟩:=hcoef t
   have h1:=ht_mul c (coef q t)
   refine poly_plus.l10 _ _ t _ _ _ _ _ _ (by omega) (coefficient p t) (coefficient q t) (QF.Mul c (coef q t) (by omega) (by omega)) (QF.Add (coef p t) (c*coef q t) (by omega) (by omega)) (by rw[lenM,tabL_len];omega) (by omega) ?_
   rw[tab_step (f:=fun i=>if i<t+1 then coef p i+c*coef q i else 0) (by omega) (if_pos (by omega)) (fun i hi=>by
    by_cases h:i<t
    ·rw[if_pos h,if_pos (by omega)]
    ·rw[if_neg h,if_neg (by omega)])]
   exact ih (t+1) (by omega)
 have:=loop _ 0 rfl
 refine poly_plus.e0 _ _ _ (by omega) ?_
 rw[hmax,tabL_zero]
 exact this
theorem times{a b:Nat}(n:Nat)(p q:List Rat)(hlp:p.length≤100000)(hlq:q.length≤100000)(hp:Fl a p)(hq:Fl b q)(ha:1≤a)(hb:1≤b)(hn:p.length≤n∨q.length≤n)(hk:(n+1)*(a+b+1)+1≤68719476736):Contract prg 59 [pq p,pq q] (pq (trimL (mulL p q))):=by
 rw[Nat.add_mul] at hk
 by_cases h0:p.length=0
 ·rw[List.eq_nil_of_length_eq_zero h0]
  exact poly_times.e0 _ _ rfl
 by_cases h1:q.length=0
 ·have e:trimL (mulL p q)=trimL []:=eval_ext (fun x=>by rw[evalL_mulL,List.eq_nil_of_length_eq_zero h1];show _*(0:Rat)=0;rw[Rat.mul_zero])
  rw[e]
  exact poly_times.e1 _ _ (by rw[lenM];exact h0) (by rw[lenM];exact h1)
 have hm:∀i,p.length+q.length-1≤i→∀t,coef (mulL (p.take t) q) i=0:=by
  intro i hi t
  have key:∀(p:List Rat) (i:Nat),p.length+q.length-1≤i→coef (mulL p q) i=0:=by
   intro p
   induction p with
   |nil=>intro i _;rfl
   |cons c p ih =>
    intro i hi
    rw[List.length_cons] at hi
    rw[coef_mul_cons,coef_ge (p:=q) (by omega)]
    cases i with
    |zero=>rw[coef_zero];grind
    |succ i =>
     rw[coef_succ]
     cases p with
     |nil=>rw[mulL,coef_nil];grind
     |cons d p=>rw[ih i (by omega)];grind
  exact key _ i (by rw[List.length_take];omega)
 have bG:=ht_mul_take hp hq ha hb hn
 have outer:∀(j t:Nat),p.length-t=j→t≤p.length→poly_times.Loop1 (q.map mkR) (p.length+q.length-1) (p.map mkR) t ((tabL (p.length+q.length-1) (coef (mulL (p.take t) q))).map mkR) (pq (trimL (mulL p q))):=by
  intro j
  induction j with
  |zero =>
   intro t hj ht
   have e:trimL (mulL p q)=trimL (tabL (p.length+q.length-1) (coef (mulL (p.take t) q))):=by
    refine trimL_ext (fun i => ?_)
    rw[tabL_coef (fun i hi=>hm i hi t),List.take_of_length_le (by omega)]
   rw[e]
   refine poly_times.l11 _ _ _ t _ _ (by rw[lenM];omega) (by rw[lenM,tabL_len]) (Trim (k:=n*(a+b+1)+1) _ (by rw[tabL_len];omega) (fl_of_coef (fun i => ?_)) (by omega))
   rw[tabL_coef (fun i hi=>hm i hi t)]
   exact bG t i
  |succ j ih =>
   intro t hj ht
   obtain⟨v,hv⟩:∃v,p[t]? = some v:=⟨_,List.getElem?_eq_getElem (by omega)⟩
   have hvh:=hp v (List.mem_of_getElem? hv)
   refine poly_times.l10 _ _ _ t _ (mkR v) (by rw[lenM];omega) (getM hv) ?_
   have inner:∀(k u:Nat),q.length-u=k→u≤q.length→poly_times.Loop2 (q.map mkR) (p.length+q.length-1) t (p.map mkR) t u (mkR v) ((tabL (p.length+q.length-1) (fun i=>coef (mulL (p.take t) q) i+if t≤i∧i<t+u then v*coef q (i-t) else 0)).map mkR) (pq (trimL (mulL p q))):=by
    intro k
    induction k with
    |zero =>
     intro u hk2 hu
     refine poly_times.l21 _ _ t _ t u _ _ (by rw[lenM];omega) (by omega) ?_
     have:=ih (t+1) (by omega) (by omega)
     rwa[tabL_congr (f:=coef (mulL (p.take (t+1)) q)) (g:=fun i=>coef (mulL (p.take t) q) i+if t≤i∧i<t+u then v*coef q (i-t) else 0) (fun i hi=>by
      rw[coef_mul_snoc hv,coef_shiftL,coef_smulL]
      congr 1
      by_cases h1:i<t
      ·rw[if_pos h1,if_neg (by omega)]
      ·rw[if_neg h1]
       by_cases h2:i<t+u
       ·rw[if_pos (by omega)]
       ·rw[if_neg (by omega),coef_ge (p:=q) (by omega),Rat.mul_zero])] at this
    |succ k ih2 =>
     intro u hk2 hu
     obtain⟨w,hw⟩:∃w,q[u]? = some w:=⟨_,List.getElem?_eq_getElem (by omega)⟩
     have hwh:=hq w (List.mem_of_getElem? hw)
     have hg:t+u<p.length+q.length-1:=by omega
     have b1:=bG t (t+u)
     have b2:=ht_mul v w
     refine poly_times.l20 _ _ t _ t u _ _ (mkR w) (mkR (coef (mulL (p.take t) q) (t+u))) _ _ (by rw[lenM];omega) (getM hw) (by omega) hg ?_ (QF.Mul v w (by omega) (by omega)) (QF.Add (coef (mulL (p.take t) q) (t+u)) (v*w) (by omega) (by omega)) (by rw[lenM,tabL_len];omega) (by omega) ?_
     ·rw[getM (tabL_get _ hg),if_neg (by omega),Rat.add_zero]
     ·rw[tab_step (f:=fun i=>coef (mulL (p.take t) q) i+if t≤i∧i<t+(u+1) then v*coef q (i-t) else 0) hg (by
       rw[if_pos (by omega),show t+u-t=u from by omega,coef_of hw]) (fun i hi=>by
       congr 1
       by_cases h:t≤i∧i<t+u
       ·rw[if_pos h,if_pos (by omega)]
       ·rw[if_neg h,if_neg (by omega)])]
      exact ih2 (u+1) (by omega) (by omega)
   have:=inner _ 0 rfl (by omega)
   rwa[tabL_congr (g:=coef (mulL (p.take t) q)) (fun i hi=>by rw[if_neg (by omega),Rat.add_zero])] at this
 have:=outer _ 0 rfl (by omega)
 refine poly_times.e2 _ _ (p.length+q.length-1) (by rw[lenM];exact h0) (by rw[lenM];exact h1) (by rw[lenM,lenM];omega) (by rw[lenM,lenM];unfold InI64;omega) (by rw[lenM,lenM];omega) (by omega) ?_
 rw[tabL_zero]
 exact this
theorem checks2(p q:List ARat)(hp:FitP 274877906944 p)(hq:FitP 274877906944 q):Contract prg 58 [lpv (lcell ARat.cells) [p,q]] (errPV (errOf (chk2 p q))):=by
 have h1:=CPo.Check p hp
 have h2:=CPo.Check q hq
 refine poly_checks.e0 [p,q] ?_
 unfold chk2
 by_cases e:chk p=0
 ·rw[if_pos e]
  rw[e] at h1
  refine poly_checks.l10 _ 0 p (by simp) rfl h1 (by omega) ?_
  by_cases e2:chk q=0
  ·rw[e2] at h2 ⊢
   exact poly_checks.l10 _ 1 q (by simp) rfl h2 (by omega) (poly_checks.l12 _ 2 (by simp))
  ·rw[errOf_ne e2] at h2 ⊢
   exact poly_checks.l11 _ 1 q _ (by simp) rfl h2
 ·rw[if_neg e]
  rw[errOf_ne e] at h1 ⊢
  exact poly_checks.l11 _ 0 p _ (by simp) rfl h1
end CPl
end Go.Proofs.YtboilcfohmmpbaaGreatDoor.Sym
namespace Go.Proofs.YtboilcfohmmpbaaGreatDoor.Sym
open Go Path CInt
set_option linter.unusedVariables false
namespace CPr
theorem Trim{k:Nat}(q:List Rat)(hl:q.length≤1000000)(hf:Fl k q)(hk:k≤68719476736):Contract prg 123 [pq q] (pq (trimL q)):=by
 have:=CRe.Trim (q.map mkR) (by rw[lenM];omega) (fitQ hf hk)
 rwa[vals_mkR] at this
theorem plus{a b d:Nat}(p q:List Rat)(c:Rat)(s:Nat)(hlp:p.length≤100000)(hlq:q.length+s≤100000)(hp:Fl a p)(hq:Fl b q)(hc:ht c≤d)(ha:1≤a)(hb:1≤b)(hk:a+b+d+1≤68719476736):Contract prg 124 [pq p,pq q,(mkR c).pv,vI (s:Int)] (pq (trimL (addL p (shiftL s (smulL c q))))):=by
 have hcoef:∀i,ht (coef p i)≤a∧ht (coef q i)≤b:=fun i=>⟨fl_coef hp ha i,fl_coef hq hb i⟩
 have bd:∀i j,ht (coef p i+c*coef q j)≤a+b+d+1:=by
  intro i j
  have c1:=(hcoef i).1
  have c2:=(hcoef j).2
  have h1:=ht_mul c (coef q j)
  have h2:=ht_add (coef p i) (c*coef q j)
  omega
 have loop:∀(j t:Nat),q.length-t=j→t≤q.length→linkworkref05_plus.Loop1 (s:Int) (max p.length (q.length+s)) (q.map mkR) t (mkR c) ((tabL (max p.length (q.length+s)) (fun i=>if s≤i∧i<s+t then coef p i+c*coef q (i-s) else coef p i)).map mkR) (pq (trimL (addL p (shiftL s (smulL c q))))):=by
  intro j
  induction j with
  |zero =>
   intro t hj ht
   have e:trimL (addL p (shiftL s (smulL c q)))=trimL (tabL (max p.length (q.length+s)) (fun i=>if s≤i∧i<s+t then coef p i+c*coef q (i-s) else coef p i)):=by
    refine trimL_ext (fun i => ?_)
    rw[coef_addL,coef_shiftL,coef_smulL]
    by_cases hi:i<max p.length (q.length+s)
    ·rw[coef_of (tabL_get _ hi)]
     by_cases h1:i<s
     ·rw[if_pos h1,if_neg (by omega),Rat.add_zero]
     ·rw[if_neg h1]
      by_cases h2:i<s+t
      ·rw[if_pos (by omega)]
      ·rw[if_neg (by omega),coef_ge (p:=q) (by omega),Rat.mul_zero,Rat.add_zero]
    ·rw[coef_ge (p:=tabL _ _) (by rw[tabL_len];omega),coef_ge (p:=p) (by omega),if_neg (by omega),coef_ge (p:=q) (by omega)];grind
   rw[e]
   refine linkworkref05_plus.l11 _ _ _ t _ _ _ (by rw[lenM];omega) (by rw[lenM,tabL_len]) (Trim (k:=a+b+d+1) _ (by rw[tabL_len];omega) (fl_of_coef (fun i => ?_)) hk)
   have h0:=ht_zero
   by_cases hi:i<max p.length (q.length+s)
   ·rw[coef_of (tabL_get _ hi)]
    split
    ·exact bd _ _
    ·have:=(hcoef i).1;omega
   ·rw[coef_ge (p:=tabL _ _) (by rw[tabL_len];omega),h0];omega
  |succ j ih =>
   intro t hj ht
   obtain⟨w,hw⟩:∃w,q[t]? = some w:=⟨_,List.getElem?_eq_getElem (by omega)⟩
   have hwh:=hq w (List.mem_of_getElem? hw)
   have c1:=(hcoef (t+s)).1
   have h1:=ht_mul c w
   have hg:t+s<max p.length (q.length+s):=by omega
   refine linkworkref05_plus.l10 _ _ _ t _ _ (mkR w) (t+s) (mkR (coef p (t+s))) _ _ (t+s) (by rw[lenM];omega) (getM hw) (by unfold InI64;omega) (by omega) hg ?_ (QR.Mul c w (by omega) (by omega)) (QR.Add (coef p (t+s)) (c*w) (by omega) (by omega)) (by omega) hg (by rw[lenM,tabL_len];omega) (by omega) ?_
   ·rw[getM (tabL_get _ hg),if_neg (by omega)]
   ·rw[tab_step (f:=fun i=>if s≤i∧i<s+(t+1) then coef p i+c*coef q (i-s) else coef p i) hg (by
     rw[if_pos (by omega),show t+s-s=t from by omega,coef_of hw]) (fun i hi=>by
     by_cases h:s≤i∧i<s+t
     ·rw[if_pos h,if_pos (by omega)]
     ·rw[if_neg h,if_neg (by omega)])]
    exact ih (t+1) (by omega) (by omega)
 have:=loop _ 0 rfl (by omega)
 have hst:(p.map mkR).take (min (p.map mkR).length (max p.length (q.length+s)))++(List.replicate (max p.length (q.length+s)) (⟨false,[],[]⟩:ARat)).drop (min (p.map mkR).length (max p.length (q.length+s)))=(tabL (max p.length (q.length+s)) (fun i=>if s≤i∧i<s+0 then coef p i+c*coef q (i-s) else coef p i)).map mkR:=by
  rw[lenM,Nat.min_eq_left (by omega),List.take_of_length_le (by rw[lenM];omega)]
  refine List.ext_getElem? fun i => ?_
  by_cases hi:i<max p.length (q.length+s)
  ·rw[getM (tabL_get _ hi),if_neg (by omega)]
   by_cases h2:i<p.length
   ·rw[List.getElem?_append_left (by rw[lenM];exact h2),getM (coef_get h2)]
   ·rw[List.getElem?_append_right (by rw[lenM];omega),List.getElem?_drop,List.getElem?_replicate,lenM,if_pos (by omega),coef_ge (by omega)];rfl
  ·rw[List.getElem?_eq_none (by rw[List.length_append,lenM,List.length_drop,List.length_replicate];omega),List.getElem?_eq_none (by rw[lenM,tabL_len];omega)]
 refine linkworkref05_plus.e0 _ _ _ _ (max p.length (q.length+s)) (by rw[lenM];unfold InI64;omega) (by rw[lenM,lenM];omega) (by omega) (by rw[lenM,List.length_replicate];omega) ?_
 rw[hst]
 exact this
theorem times{a b:Nat}(n:Nat)(p q:List Rat)(hlp:p.length≤10000)(hlq:q.length≤10000)(hp:Fl a p)(hq:Fl b q)(ha:1≤a)(hb:1≤b)(hn:p.length≤n∨q.length≤n)(hk:(n+1)*(a+b+1)+1≤68719476736):Contract prg 126 [pq p,pq q] (pq (trimL (mulL p q))):=by
 rw[Nat.add_mul] at hk
 have bG:=ht_mul_take hp hq ha hb hn
 have loop:∀(j t:Nat) (out:List Rat),p.length-t=j→t≤p.length→out=trimL (mulL (p.take t) q)→linkworkref05_times.Loop1 (q.map mkR) (out.map mkR) (p.map mkR) t (pq (trimL (mulL p q))):=by
  intro j
  induction j with
  |zero =>
   intro t out hj ht ho
   rw[List.take_of_length_le (by omega)] at ho
   rw[←ho]
   exact linkworkref05_times.l11 _ _ _ t (by rw[lenM];omega)
  |succ j ih =>
   intro t out hj ht ho
   obtain⟨v,hv⟩:∃v,p[t]? = some v:=⟨_,List.getElem?_eq_getElem (by omega)⟩
   have hvh:=hp v (List.mem_of_getElem? hv)
   have hfo:Fl (n*(a+b+1)+1) out:=by
    rw[ho];exact fl_trimL (fl_of_coef (fun i=>bG t i))
   have hlo:out.length≤20000:=by
    rw[ho]
    have h1:=len_trimL (mulL (p.take t) q)
    have h2:=len_mulL (p.take t) q
    rw[List.length_take] at h2
    omega
   have hpl:=plus out q v t (by omega) (by omega) hfo hq hvh (by omega) hb (by omega)
   have e:trimL (addL out (shiftL t (smulL v q)))=trimL (mulL (p.take (t+1)) q):=trimL_ext (fun i=>by
    rw[coef_addL,ho,coef_trimL,coef_mul_snoc hv])
   rw[e] at hpl
   exact linkworkref05_times.l10 _ _ _ t (mkR v) _ (by rw[lenM];omega) (getM hv) hpl (by omega) (ih (t+1) _ (by omega) (by omega) rfl)
 exact linkworkref05_times.e0 _ _ (loop _ 0 [] rfl (by omega) rfl)
theorem both(p q:List ARat)(hp:FitP 274877906944 p)(hq:FitP 274877906944 q):Contract prg 120 [polyPV p,polyPV q] (vI (chk2 p q)):=by
 have h1:=CRe.Check p hp
 have h2:=CRe.Check q hq
 unfold chk2
 by_cases e:chk p=0
 ·rw[if_pos e]
  exact linkworkref05_both.e1 _ _ _ _ h1 e h2
 ·rw[if_neg e]
  exact linkworkref05_both.e0 _ _ _ h1 e
end CPr
end Go.Proofs.YtboilcfohmmpbaaGreatDoor.Sym
namespace Go.Proofs.YtboilcfohmmpbaaGreatDoor.Sym
open Go Path CInt
set_option linter.unusedVariables false
theorem getTop{q:List Rat}(h:q≠[]):q[q.length-1]? = some (topL q):=coef_get (by have:=List.length_pos_iff.2 h;omega)
theorem ht_top{h:Nat}{q:List Rat}(hq:Ch h q)(h1:1≤h):ht (topL q)≤h:=by have:=hq.ht (q.length-1);unfold topL;omega
namespace CPl
theorem TrimX2:∀(n:Nat) (q:List Rat),q.length=n→n<4611686018427387904→Fl 274877906944 q→poly_TrimX.Loop2 (q.map mkR) [] (.row 0 0 ((trimL q).map mkR).length 3) [(0,(.pure (((trimL q).map mkR).map ARat.cells).flatten))]:=by
 intro n
 induction n with
 |zero =>
  intro q hq _ _
  have:q=[]:=List.eq_nil_of_length_eq_zero hq
  subst this
  exact poly_TrimX.l22 [] rfl rfl (by simp)
 |succ n ih =>
  intro q hq hb hf
  obtain⟨v,hv⟩:∃v,q[n]? = some v:=⟨_,List.getElem?_eq_getElem (by omega)⟩
  have hs:=snoc_of hv hq
  have hm:(q.map mkR)[n]? = some (mkR v):=by rw[List.getElem?_map,hv];rfl
  have hv1:=hf v (List.mem_of_getElem? hv)
  have sg:=CFr.Sign (mkR v) (fit_mkR hv1)
  rw[mkR_val] at sg
  have hl:(q.map mkR).length=n+1:=by rw[List.length_map];exact hq
  by_cases h0:v=0
  ·have e:trimL q=trimL (q.take n):=by
    conv=>lhs;rw[hs,h0,trimL_zero]
   rw[e]
   refine poly_TrimX.l20 (q.map mkR) n (mkR v) _ n rfl (by omega) (by unfold InI64;omega) (by omega) (by omega) hm sg (cmpR_eq.2 h0) (by omega) (by omega) ?_
   have:=ih (q.take n) (by rw[List.length_take];omega) (by omega) (fun x hx=>hf x (List.mem_of_mem_take hx))
   rwa[List.map_take] at this
  ·have e:trimL q=q:=by rw[hs,trimL_ne h0]
   rw[e]
   exact poly_TrimX.l21 (q.map mkR) n (mkR v) _ rfl rfl (by omega) (by unfold InI64;omega) (by omega) (by omega) hm sg (fun e=>h0 (cmpR_eq.1 e))
theorem TrimX{k:Nat}(q:List Rat)(hl:q.length≤1000000)(hf:Fl k q)(hk:k≤68719476736):ContractX prg 105 [.pv (pq q)] [] (.row 0 0 ((trimL q).map mkR).length 3) [(0,(.pure (((trimL q).map mkR).map ARat.cells).flatten))]:=by
 have loop:∀(j t:Nat) (site:List ARat),q.length-t=j→t≤q.length→site=(q.take t).map mkR→poly_TrimX.Loop1 site (q.map mkR) t [] (.row 0 0 ((trimL q).map mkR).length 3) [(0,(.pure (((trimL q).map mkR).map ARat.cells).flatten))]:=by
  intro j
  induction j with
  |zero =>
   intro t site hj ht hs
   refine poly_TrimX.l11 site _ _ rfl (by rw[lenM];omega) ?_
   rw[List.take_of_length_le (by omega)] at hs
   rw[hs]
   exact TrimX2 q.length q rfl (by omega) (fl_mono hf (by omega))
  |succ j ih =>
   intro t site hj ht hs
   obtain⟨v,hv⟩:∃v,q[t]? = some v:=⟨_,List.getElem?_eq_getElem (by omega)⟩
   have hvh:=hf v (List.mem_of_getElem? hv)
   have hsl:site.length=t:=by rw[hs,List.length_map,List.length_take];omega
   refine poly_TrimX.l10 site _ t _ _ rfl (by rw[lenM];omega) (getM hv) (QF.addZ v (by omega)) (by simp;omega) (by omega) (ih (t+1) _ (by omega) (by omega) ?_)
   rw[hs,List.take_add_one,hv];simp
 exact poly_TrimX.e0 _ (loop _ 0 [] rfl (by omega) rfl)
theorem divide{h b:Nat}(p q:List Rat)(hz:lastZ q=false)(hq0:q≠[])(hp:Ch h p)(hq:Ch b q)(h1:1≤h)(hb1:1≤b)(hlp:p.length≤10000)(hlq:q.length≤10000)(hk:2*(h+(p.length+1-q.length)*(b+1))+3*b+5≤68719476736):Contract prg 73 [pq p,pq q] (.tup [pq (divL p q).1,pq (divL p q).2]):=by
 have hql:=List.length_pos_iff.2 hq0
 have hqt:=ht_top hq hb1
 have htop:=top_ne hz hq0
 obtain⟨H,hH⟩:∃H,H=h+(p.length+1-q.length)*(b+1):=⟨_,rfl⟩
 rw[←hH] at hk
 have hqc:∀i,ht (coef q i)≤b:=fun i=>by have:=hq.ht i;omega
 have loop:∀(n hc:Nat) (out rest:List Rat),rest.length<n→1≤hc→Ch hc rest→hc+(rest.length+1-q.length)*(b+1)≤H→lastZ out=false→lastZ rest=false→out.length≤p.length+1-q.length→rest.length≤p.length→(∀i,ht (coef out i)≤H+b)→(∀i,i+q.length≤rest.length→coef out i=0) →
   poly_divide.Loop1 (q.map mkR) (rest.map mkR).length (p.length+1-q.length) (mkR (topL q)) (rest.map mkR) ((tabL (p.length+1-q.length) (coef out)).map mkR) (.tup [pq (divF n out rest q).1,pq (divF n out rest q).2]):=by
  intro n
  induction n with
  |zero=>intro hc out rest hn;omega
  |succ n ih =>
   intro hc out rest hn hc1 hr hcH zo zr lo lr ho hout
   rw[divF]
   cases hb:Nat.blt rest.length q.length with
   |true =>
    have hlt:=blt_iff.1 hb
    rw[cond_true]
    have e:trimL (tabL (p.length+1-q.length) (coef out))=out:=by
     rw[←trimL_of zo]
     refine trimL_ext (fun i => ?_)
     rw[trimL_of zo]
     exact tabL_coef (fun i hi=>coef_ge (by omega)) i
    have ht:=Trim (k:=H+b) (tabL (p.length+1-q.length) (coef out)) (by rw[tabL_len];omega) (fl_of_coef (fun i=>by
     rw[tabL_coef (fun i hi=>coef_ge (by omega))];exact ho i)) (by omega)
    rw[e] at ht
    exact poly_divide.l11 _ _ _ _ _ _ _ (by rw[lenM,lenM];exact hlt) (by rw[lenM,tabL_len]) ht rfl
   |false =>
    have hle:=blt_fal.1 hb
    rw[cond_false]
    have hr0:rest≠[]:=by intro e;rw[e] at hle;simp at hle;exact hq0 hle
    have hrt:=ht_top hr hc1
    have hrc:∀i,ht (coef rest i)≤hc:=fun i=>by have:=hr.ht i;omega
    have hsl:=stepR_len htop (by omega) hle
    have e1:rest.length+1-q.length=(rest.length-q.length)+1:=by omega
    have e2:((stepR rest q).length+1-q.length)*(b+1)≤(rest.length-q.length)*(b+1):=Nat.mul_le_mul_right _ (by omega)
    rw[e1,Nat.add_mul,Nat.one_mul] at hcH
    have hcc:ht (stepC rest q)≤hc+b:=by
     have:=ht_div (topL rest) (topL q)
     unfold stepC;omega
    have hdiv:=QF.Div (topL rest) (topL q) (by omega) (by omega) htop
    have cc:∀i,coef (trimL (addL out (shiftL (rest.length-q.length) [stepC rest q]))) i=if i=rest.length-q.length then stepC rest q else coef out i:=by
     intro i
     rw[coef_trimL,coef_addL,coef_shiftL]
     by_cases h3:i=rest.length-q.length
     ·rw[if_pos h3,if_neg (by omega),hout i (by omega),h3,Nat.sub_self,coef_zero,Rat.zero_add]
     ·rw[if_neg h3]
      split
      ·rw[Rat.add_zero]
      ·rw[coef_ge (p:=[stepC rest q]) (by simp;omega),Rat.add_zero]
    refine poly_divide.l10 _ _ _ _ _ _ (rest.length-1) (mkR (topL rest)) (mkR (stepC rest q)) none (rest.length-q.length) (by rw[lenM,lenM];exact hle) (by rw[lenM,lenM];unfold InI64;omega) (by rw[lenM];unfold InI64;omega) (by rw[lenM];omega) (by rw[lenM];omega) (getM (getTop hr0)) hdiv (by rw[lenM,lenM];omega) (by omega) (by rw[lenM,tabL_len];omega) ?_
    rw[tab_step (f:=coef (trimL (addL out (shiftL (rest.length-q.length) [stepC rest q])))) (by omega) (by rw[cc,if_pos rfl]) (fun i hi=>by rw[cc,if_neg hi])]
    have next:=ih (hc+b+1) (trimL (addL out (shiftL (rest.length-q.length) [stepC rest q]))) (stepR rest q) (by omega) (by omega) (hr.step hq htop) (by omega) (lastZ_trimL _) (lastZ_trimL _) (len_trim_le (fun i hi=>by
     rw[←coef_trimL,cc,if_neg (by omega),coef_ge (by omega)])) (by omega) (fun i=>by
     rw[cc]
     split
     ·omega
     ·exact ho i) (fun i hi=>by rw[cc,if_neg (by omega)];exact hout i (by omega))
    have inner:∀(j t:Nat),q.length-t=j→t≤q.length→poly_divide.Loop2 (q.map mkR) (rest.map mkR).length (p.length+1-q.length) (((rest.map mkR).length:Int)-((q.map mkR).length:Int)) t (mkR (topL q)) (mkR (stepC rest q)) ((tabL rest.length (fun i=>coef rest i-if rest.length-q.length≤i∧i<rest.length-q.length+t then stepC rest q*coef q (i-(rest.length-q.length)) else 0)).map mkR) ((tabL (p.length+1-q.length) (coef (trimL (addL out (shiftL (rest.length-q.length) [stepC rest q]))))).map mkR)
      (.tup [pq (divF n (trimL (addL out (shiftL (rest.length-q.length) [stepC rest q]))) (stepR rest q) q).1,pq (divF n (trimL (addL out (shiftL (rest.length-q.length) [stepC rest q]))) (stepR rest q) q).2]):=by
     intro j
     induction j with
     |zero =>
      intro t hj ht
      have e:trimL (tabL rest.length (fun i=>coef rest i-if rest.length-q.length≤i∧i<rest.length-q.length+t then stepC rest q*coef q (i-(rest.length-q.length)) else 0))=stepR rest q:=by
       refine trimL_ext (fun i => ?_)
       rw[coef_addL,coef_shiftL,coef_smulL]
       by_cases hi:i<rest.length
       ·rw[coef_of (tabL_get _ hi)]
        by_cases h3:i<rest.length-q.length
        ·rw[if_neg (by omega),if_pos h3];grind
        ·rw[if_pos (by omega),if_neg h3];grind
       ·rw[coef_ge (p:=tabL _ _) (by rw[tabL_len];omega),coef_ge (p:=rest) (by omega),if_neg (by omega),coef_ge (p:=q) (by omega)];grind
      have htx:=TrimX (k:=2*hc+2*b+1) (tabL rest.length (fun i=>coef rest i-if rest.length-q.length≤i∧i<rest.length-q.length+t then stepC rest q*coef q (i-(rest.length-q.length)) else 0)) (by rw[tabL_len];omega) (fl_of_coef (fun i=>by
       by_cases hi:i<rest.length
       ·rw[coef_of (tabL_get _ hi)]
        have a1:=hrc i
        have a2:=hqc (i-(rest.length-q.length))
        have a3:=ht_mul (stepC rest q) (coef q (i-(rest.length-q.length)))
        have a4:=ht_sub (coef rest i) (stepC rest q*coef q (i-(rest.length-q.length)))
        split
        ·omega
        ·rw[show coef rest i-0=coef rest i from by grind];omega
       ·rw[coef_ge (p:=tabL _ _) (by rw[tabL_len];omega),ht_zero];omega)) (by omega)
      rw[e] at htx
      exact poly_divide.l21 _ _ _ _ _ _ _ _ _ _ _ (by rw[lenM];omega) (by rw[lenM,lenM,tabL_len]) htx next
     |succ j ih2 =>
      intro t hj ht
      obtain⟨w,hw⟩:∃w,q[t]? = some w:=⟨_,List.getElem?_eq_getElem (by omega)⟩
      have hwc:=coef_of hw
      have a2:=hqc t
      rw[hwc] at a2
      have a1:=hrc (rest.length-q.length+t)
      have a3:=ht_mul (stepC rest q) w
      have hg:rest.length-q.length+t<rest.length:=by omega
      refine poly_divide.l20 _ _ _ _ _ _ _ _ _ (mkR w) (rest.length-q.length+t) (mkR (coef rest (rest.length-q.length+t))) _ _ (rest.length-q.length+t) (by rw[lenM];omega) (getM hw) (by rw[lenM,lenM];unfold InI64;omega) (by rw[lenM,lenM];omega) (by rw[lenM];omega) ?_ (QF.Mul _ _ (by omega) (by omega)) (QF.Sub (coef rest (rest.length-q.length+t)) (stepC rest q*w) (by omega) (by omega)) (by rw[lenM,lenM];omega) (by rw[lenM];omega) (by rw[lenM,tabL_len];omega) (by omega) ?_
      ·rw[getM (tabL_get _ hg),if_neg (by omega)]
       congr 2;grind
      ·rw[tab_step (f:=fun i=>coef rest i-if rest.length-q.length≤i∧i<rest.length-q.length+(t+1) then stepC rest q*coef q (i-(rest.length-q.length)) else 0) hg (by
        rw[if_pos (by omega),show rest.length-q.length+t-(rest.length-q.length)=t from by omega,hwc]) (fun i hi=>by
        by_cases h:rest.length-q.length≤i∧i<rest.length-q.length+t
        ·rw[if_pos h,if_pos (by omega)]
        ·rw[if_neg h,if_neg (by omega)])]
       exact ih2 (t+1) (by omega) (by omega)
    have:=inner _ 0 rfl (by omega)
    have e0:(tabL rest.length (fun i=>coef rest i-if rest.length-q.length≤i∧i<rest.length-q.length+0 then stepC rest q*coef q (i-(rest.length-q.length)) else 0))=rest:=by
     refine List.ext_getElem? (fun i => ?_)
     by_cases hi:i<rest.length
     ·rw[tabL_get _ hi,coef_get hi,if_neg (by omega)]
      congr 1;grind
     ·rw[List.getElem?_eq_none (by rw[tabL_len];omega),List.getElem?_eq_none (by omega)]
    rwa[e0] at this
 have hlt:=len_trimL p
 have hmul:((trimL p).length+1-q.length)*(b+1)≤(p.length+1-q.length)*(b+1):=Nat.mul_le_mul_right _ (by omega)
 have:=loop (p.length+1) h [] (trimL p) (by omega) h1 hp.trim (by omega) rfl (lastZ_trimL p) (by simp) hlt (fun i=>by rw[coef_nil,ht_zero];omega) (fun i _=>rfl)
 have htx:=TrimX (k:=h) p (by omega) (hp.fl h1) (by omega)
 refine poly_divide.e0 _ _ _ _ (p.length+1-q.length) (q.length-1) (mkR (topL q)) htx (by rw[lenM,lenM];unfold InI64;omega) (by rw[lenM,lenM];unfold InI64;omega) (by rw[lenM,lenM];omega) (by omega) (by rw[lenM];unfold InI64;omega) (by rw[lenM];omega) (getM (getTop hq0)) ?_
 rw[tabL_zero]
 exact this
end CPl
namespace CPr
theorem divide{h b:Nat}(p q:List Rat)(hz:lastZ q=false)(hq0:q≠[])(hp:Ch h p)(hq:Ch b q)(h1:1≤h)(hb1:1≤b)(hlp:p.length≤10000)(hlq:q.length≤10000)(hk:2*(h+(p.length+1-q.length)*(b+1))+3*b+5≤68719476736):Contract prg 122 [pq p,pq q] (.tup [pq (divL p q).1,pq (divL p q).2]):=by
 have hql:=List.length_pos_iff.2 hq0
 have hqt:=ht_top hq hb1
 have htop:=top_ne hz hq0
 obtain⟨H,hH⟩:∃H,H=h+(p.length+1-q.length)*(b+1):=⟨_,rfl⟩
 rw[←hH] at hk
 have hone:=CRb.Of 1 (by unfold InI64;omega)
 have loop:∀(n hc:Nat) (out rest:List Rat),rest.length<n→1≤hc→Ch hc rest→hc+(rest.length+1-q.length)*(b+1)≤H→out.length≤p.length+1-q.length→rest.length≤p.length→(∀i,ht (coef out i)≤H+b)→(∀i,i+q.length≤rest.length→coef out i=0) →
   linkworkref05_divide.Loop1 (q.map mkR) (out.map mkR) (rest.map mkR) (.tup [pq (divF n out rest q).1,pq (divF n out rest q).2]):=by
  intro n
  induction n with
  |zero=>intro hc out rest hn;omega
  |succ n ih =>
   intro hc out rest hn hc1 hr hcH lo lr ho hout
   rw[divF]
   cases hb:Nat.blt rest.length q.length with
   |true =>
    have hlt:=blt_iff.1 hb
    rw[cond_true]
    exact linkworkref05_divide.l11 _ _ _ (by rw[lenM,lenM];exact hlt)
   |false =>
    have hle:=blt_fal.1 hb
    rw[cond_false]
    have hr0:rest≠[]:=by intro e;rw[e] at hle;simp at hle;exact hq0 hle
    have hrt:=ht_top hr hc1
    have hsl:=stepR_len htop (by omega) hle
    have e1:rest.length+1-q.length=(rest.length-q.length)+1:=by omega
    have e2:((stepR rest q).length+1-q.length)*(b+1)≤(rest.length-q.length)*(b+1):=Nat.mul_le_mul_right _ (by omega)
    rw[e1,Nat.add_mul,Nat.one_mul] at hcH
    have hcc:ht (stepC rest q)≤hc+b:=by
     have:=ht_div (topL rest) (topL q)
     unfold stepC;omega
    have hdiv:=QR.Div (topL rest) (topL q) (by omega) (by omega) htop
    have cc:∀i,coef (trimL (addL out (shiftL (rest.length-q.length) [stepC rest q]))) i=if i=rest.length-q.length then stepC rest q else coef out i:=by
     intro i
     rw[coef_trimL,coef_addL,coef_shiftL]
     by_cases h3:i=rest.length-q.length
     ·rw[if_pos h3,if_neg (by omega),hout i (by omega),h3,Nat.sub_self,coef_zero,Rat.zero_add]
     ·rw[if_neg h3]
      split
      ·rw[Rat.add_zero]
      ·rw[coef_ge (p:=[stepC rest q]) (by simp;omega),Rat.add_zero]
    have p1:=plus (b:=hc+b) (d:=1) out [stepC rest q] ((1:Int):Rat) (rest.length-q.length) (by omega) (by simp;omega) (fl_of_coef ho) (fun x hx=>by rw[List.mem_singleton.1 hx];exact hcc) (by decide) (by omega) (by omega) (by omega)
    have q1:trimL (addL out (shiftL (rest.length-q.length) (smulL ((1:Int):Rat) [stepC rest q])))=trimL (addL out (shiftL (rest.length-q.length) [stepC rest q])):=by
     rw[show ((1:Int):Rat)=1 from rfl,smulL_one]
    rw[q1] at p1
    have hneg:=QR.Neg (stepC rest q) (by omega)
    have p2:=plus (d:=hc+b) rest q (-(stepC rest q)) (rest.length-q.length) (by omega) (by omega) (hr.fl hc1) (hq.fl hb1) (by rw[ht_neg];exact hcc) hc1 hb1 (by omega)
    have hcast:((rest.map mkR).length:Int)-((q.map mkR).length:Int)=((rest.length-q.length:Nat):Int):=by rw[lenM,lenM];omega
    have next:=ih (hc+b+1) (trimL (addL out (shiftL (rest.length-q.length) [stepC rest q]))) (stepR rest q) (by omega) (by omega) (hr.step hq htop) (by omega) (len_trim_le (fun i hi=>by
     rw[←coef_trimL,cc,if_neg (by omega),coef_ge (by omega)])) (by omega) (fun i=>by
     rw[cc]
     split
     ·omega
     ·exact ho i) (fun i hi=>by rw[cc,if_neg (by omega)];exact hout i (by omega))
    exact linkworkref05_divide.l10 _ _ _ (rest.length-1) (mkR (topL rest)) (q.length-1) (mkR (topL q)) (mkR (stepC rest q)) _ _ _ _ _ (by rw[lenM,lenM];exact hle) (by rw[lenM];unfold InI64;omega) (by rw[lenM];omega) (getM (getTop hr0)) (by rw[lenM];unfold InI64;omega) (by rw[lenM];omega) (getM (getTop hq0)) hdiv (by rw[lenM,lenM];unfold InI64;omega) hone (by rw[hcast];exact p1) hneg (by rw[hcast];exact p2) next
 have hlt:=len_trimL p
 have hmul:((trimL p).length+1-q.length)*(b+1)≤(p.length+1-q.length)*(b+1):=Nat.mul_le_mul_right _ (by omega)
 have:=loop (p.length+1) h [] (trimL p) (by omega) h1 hp.trim (by omega) (by simp) hlt (fun i=>by rw[coef_nil,ht_zero];omega) (fun i _=>rfl)
 exact linkworkref05_divide.e0 _ _ _ (Trim (k:=h) p (by omega) (hp.fl h1) (by omega)) this
theorem monic{h:Nat}(p:List Rat)(hz:lastZ p=false)(hp:Ch h p)(h1:1≤h)(hl:p.length≤10000)(hk:3*h+3≤68719476736):Contract prg 148 [pq p] (pq (monicL p)):=by
 by_cases h0:p=[]
 ·subst h0;exact linkworkref05_monic.e0 _ rfl
 ·have htop:=top_ne hz h0
  have htp:=ht_top hp h1
  have hp0:=List.length_pos_iff.2 h0
  have hone:=CRb.Of 1 (by unfold InI64;omega)
  have z1:ht ((1:Int):Rat)=1:=by decide
  have hd:=QR.Div ((1:Int):Rat) (topL p) (by omega) (by omega) htop
  have b1:=ht_div ((1:Int):Rat) (topL p)
  have hpl:=plus (a:=1) (d:=h+1) [] p (((1:Int):Rat)/topL p) 0 (by simp) (by omega) (fun x hx=>by cases hx) (hp.fl h1) (by omega) (by omega) h1 (by omega)
  have e:trimL (addL [] (shiftL 0 (smulL (((1:Int):Rat)/topL p) p)))=monicL p:=rfl
  rw[e] at hpl
  exact linkworkref05_monic.e1 _ _ (p.length-1) _ _ _ _ (by rw[lenM];omega) hone (by rw[lenM];unfold InI64;omega) (by rw[lenM];omega) (getM (getTop h0)) hd hpl
end CPr
end Go.Proofs.YtboilcfohmmpbaaGreatDoor.Sym



namespace Go.Proofs.YtboilcfohmmpbaaGreatDoor.Sym
open Go Path CInt
set_option linter.unusedVariables false
theorem xB_pos{a b:Nat}(ha:1≤a)(hab:a≤b)(j:Nat):1≤xB a b j:=Nat.le_trans ha (xB_le a b hab (i:=0) (Nat.zero_le _))
theorem chk2_zero{p q:List ARat}(hp:chk p=0)(hq:chk q=0):chk2 p q=0:=by unfold chk2;rw[if_pos hp];exact hq
theorem CPl.next{a b N i j:Nat}(ha:1≤a)(hab:a≤b)(hN:N≤60)(hk:4*xB a b (N+2)+10≤68719476736){p d:List Rat}(e:Euc a b N i j p d)(h:d≠[]):Contract prg 78 [pq p,pq d] (.tup [pq (divL p d).1,pq (restL p d),.nilI])∧Contract prg 76 [pq (restL p d),(mkR ((-1:Int):Rat)).pv] (.tup [pq (trimL (smulL (-1) (restL p d))),.nilI]):=by
 have x1:∀j,1≤xB a b j:=xB_pos ha hab
 have hi:=e.idx
 have hij:=e.lt
 have hlen:=e.len
 have hbd:=e.bound
 obtain⟨r1,r2⟩:=e.rest hab h
 have hx:xB a b (N+2)=xB a b N+2*(xB a b (N+1)+1):=rfl
 have b0:=xB_le a b hab (i:=i) (j:=N+1) (by omega)
 have b1:=xB_le a b hab (i:=j+(p.length-d.length)) (j:=N+1) (by omega)
 have b2:=xB_le a b hab (i:=j) (j:=N+1) (by omega)
 have hcp:=chk_map e.zp (by omega)
 have hcd:=chk_map e.zq (by omega)
 have hzr:=restL_trim p d
 have hcr:=chk_map hzr (by omega)
 constructor
 ·have hck:=CPl.checks2 (p.map mkR) (d.map mkR) (fitQ (e.hp.fl (x1 i)) (by omega)) (fitQ (e.hq.fl (x1 j)) (by omega))
  rw[chk2_zero hcp hcd] at hck
  have hd:=CPl.divide p d e.zq h e.hp e.hq (x1 i) (x1 j) (by omega) (by omega) (by
   obtain⟨j',rfl⟩:∃j',j=j'+1:=⟨j-1,by omega⟩
   obtain⟨d',hd⟩:∃d',p.length-d.length=d'+1:=⟨p.length-d.length-1,by omega⟩
   have h2:=xB_le a b hab (i:=i) (j:=j') (by omega)
   have h3:=xB_gap a b hab j' d'
   have h4:=xB_le a b hab (i:=j'+1+(d'+1)) (j:=N+1) (by omega)
   rw[show p.length+1-d.length=d'+2 from by omega]
   omega)
  have:=List.length_pos_iff.2 h
  exact poly_Div.e1 _ _ _ _ hck (by rw[lenM];omega) hd
 ·have hck:=CPo.Check ((restL p d).map mkR) (fitQ (r1.fl (x1 _)) (by omega))
  rw[hcr] at hck
  have hp:=CPl.plus (a:=1) (d:=1) [] (restL p d) ((-1:Int):Rat) (by simp) (by omega) (fun x hx=>by cases hx) (r1.fl (x1 _)) (by decide) (by omega) (x1 _) (by omega)
  exact poly_Scale.e0 _ _ _ hck hp
theorem CPr.next{a b N i j:Nat}(ha:1≤a)(hab:a≤b)(hN:N≤60)(hk:4*xB a b (N+2)+10≤68719476736){p d:List Rat}(e:Euc a b N i j p d)(h:d≠[]):Contract prg 85 [pq p,pq d] (.tup [pq (divL p d).1,pq (restL p d),vI 0])∧Contract prg 87 [pq (restL p d),(mkR ((-1:Int):Rat)).pv] (.tup [pq (trimL (smulL (-1) (restL p d))),vI 0]):=by
 have x1:∀j,1≤xB a b j:=xB_pos ha hab
 have hi:=e.idx
 have hij:=e.lt
 have hlen:=e.len
 have hbd:=e.bound
 obtain⟨r1,r2⟩:=e.rest hab h
 have hx:xB a b (N+2)=xB a b N+2*(xB a b (N+1)+1):=rfl
 have b0:=xB_le a b hab (i:=i) (j:=N+1) (by omega)
 have b1:=xB_le a b hab (i:=j+(p.length-d.length)) (j:=N+1) (by omega)
 have b2:=xB_le a b hab (i:=j) (j:=N+1) (by omega)
 have hcp:=chk_map e.zp (by omega)
 have hcd:=chk_map e.zq (by omega)
 have hzr:=restL_trim p d
 have hcr:=chk_map hzr (by omega)
 constructor
 ·have hck:=CPr.both (p.map mkR) (d.map mkR) (fitQ (e.hp.fl (x1 i)) (by omega)) (fitQ (e.hq.fl (x1 j)) (by omega))
  rw[chk2_zero hcp hcd] at hck
  have hd:=CPr.divide p d e.zq h e.hp e.hq (x1 i) (x1 j) (by omega) (by omega) (by
   obtain⟨j',rfl⟩:∃j',j=j'+1:=⟨j-1,by omega⟩
   obtain⟨d',hd⟩:∃d',p.length-d.length=d'+1:=⟨p.length-d.length-1,by omega⟩
   have h2:=xB_le a b hab (i:=i) (j:=j') (by omega)
   have h3:=xB_gap a b hab j' d'
   have h4:=xB_le a b hab (i:=j'+1+(d'+1)) (j:=N+1) (by omega)
   rw[show p.length+1-d.length=d'+2 from by omega]
   omega)
  have:=List.length_pos_iff.2 h
  exact linkworkref05_Div.e2 _ _ _ _ _ hck rfl (by rw[lenM];omega) hd
 ·have hck:=CRe.Check ((restL p d).map mkR) (fitQ (r1.fl (x1 _)) (by omega))
  rw[hcr] at hck
  have hp:=CPr.plus (a:=1) (d:=1) [] (restL p d) ((-1:Int):Rat) 0 (by simp) (by omega) (fun x hx=>by cases hx) (r1.fl (x1 _)) (by decide) (by omega) (x1 _) (by omega)
  exact linkworkref05_Scale.e1 _ _ _ _ hck rfl hp
end Go.Proofs.YtboilcfohmmpbaaGreatDoor.Sym


namespace Go.Proofs.YtboilcfohmmpbaaGreatDoor.Sym
open Go Path CInt
set_option linter.unusedVariables false
theorem coef_mul_hi:∀(p q:List Rat) (i:Nat),p.length+q.length≤i+1→coef (mulL p q) i=0
 |[],q,i,_=>rfl
 |a::p,q,i,h=>by
  rw[List.length_cons] at h
  rw[coef_mul_cons,coef_ge (p:=q) (by omega),Rat.mul_zero,Rat.zero_add]
  cases i with
  |zero=>rfl
  |succ i=>rw[coef_succ];exact coef_mul_hi p q i (by omega)
theorem len_trim_mul(p q:List Rat):(trimL (mulL p q)).length≤p.length+q.length-1 :=
 len_trim_le (fun i hi=>coef_mul_hi p q i (by omega))
theorem mul_len65(p q:List Rat)(h:p.length+q.length≤66):(trimL (mulL p q)).length≤65:=by
 have:=len_trim_mul p q
 omega
namespace PQ
theorem Add{a b:Nat}(p q:List Rat)(zp:lastZ p=false)(zq:lastZ q=false)(lp:p.length≤65)(lq:q.length≤65)(hp:Fl a p)(hq:Fl b q)(ha:1≤a)(hb:1≤b)(hk:a+b+2≤68719476736):Contract prg 82 [pq p,pq q] (.tup [pq (trimL (addL p q)),.nilI]):=by
 have hck:=CPl.checks2 (p.map mkR) (q.map mkR) (fitQ hp (by omega)) (fitQ hq (by omega))
 rw[chk2_zero (chk_map zp lp) (chk_map zq lq)] at hck
 have h:=CPl.plus (d:=1) p q ((1:Int):Rat) (by omega) (by omega) hp hq (by decide) ha hb (by omega)
 rw[show ((1:Int):Rat)=1 from rfl,smulL_one] at h
 exact poly_Add.e0 _ _ _ _ hck (CFr.Of 1 (by unfold InI64;omega)) h
theorem Sub{a b:Nat}(p q:List Rat)(zp:lastZ p=false)(zq:lastZ q=false)(lp:p.length≤65)(lq:q.length≤65)(hp:Fl a p)(hq:Fl b q)(ha:1≤a)(hb:1≤b)(hk:a+b+2≤68719476736):Contract prg 119 [pq p,pq q] (.tup [pq (trimL (addL p (smulL (-1) q))),.nilI]):=by
 have hck:=CPl.checks2 (p.map mkR) (q.map mkR) (fitQ hp (by omega)) (fitQ hq (by omega))
 rw[chk2_zero (chk_map zp lp) (chk_map zq lq)] at hck
 have h:=CPl.plus (d:=1) p q ((-1:Int):Rat) (by omega) (by omega) hp hq (by decide) ha hb (by omega)
 exact poly_Sub.e0 _ _ _ _ hck (CFr.Of (-1) (by unfold InI64;omega)) h
theorem Mul{a b:Nat}(n:Nat)(p q:List Rat)(zp:lastZ p=false)(zq:lastZ q=false)(lp:p.length≤65)(lq:q.length≤65)(hp:Fl a p)(hq:Fl b q)(ha:1≤a)(hb:1≤b)(hn:p.length≤n∨q.length≤n)(hpq:p.length+q.length≤66)(hk:(n+1)*(a+b+1)+1≤68719476736):Contract prg 22 [pq p,pq q] (.tup [pq (trimL (mulL p q)),.nilI]):=by
 have k1:1*(a+b+1)≤(n+1)*(a+b+1):=Nat.mul_le_mul_right _ (by omega)
 have hck:=CPl.checks2 (p.map mkR) (q.map mkR) (fitQ hp (by omega)) (fitQ hq (by omega))
 rw[chk2_zero (chk_map zp lp) (chk_map zq lq)] at hck
 have tm:=CPl.times n p q (by omega) (by omega) hp hq ha hb hn hk
 by_cases h1:0<p.length
 ·by_cases h2:0<q.length
  ·exact poly_Mul.e1 _ _ _ hck (by rw[lenM];exact h1) (by rw[lenM];exact h2) (by rw[lenM,lenM];omega) (by rw[lenM,lenM];unfold InI64;omega) (by rw[lenM,lenM];omega) tm
  ·exact poly_Mul.e2 _ _ _ hck (by rw[lenM];exact h1) (by rw[lenM];omega) tm
 ·exact poly_Mul.e3 _ _ _ hck (by rw[lenM];omega) tm
theorem Scale{a d:Nat}(p:List Rat)(c:Rat)(zp:lastZ p=false)(lp:p.length≤65)(hp:Fl a p)(hc:ht c≤d)(ha:1≤a)(hk:a+d+2≤68719476736):Contract prg 76 [pq p,(mkR c).pv] (.tup [pq (trimL (smulL c p)),.nilI]):=by
 have hck:=CPo.Check (p.map mkR) (fitQ hp (by omega))
 rw[chk_map zp lp] at hck
 exact poly_Scale.e0 _ _ _ hck (CPl.plus (a:=1) (d:=d) [] p c (by simp) (by omega) (fun x hx=>by cases hx) hp hc (by omega) ha (by omega))
theorem Derive{k:Nat}(p:List Rat)(zp:lastZ p=false)(lp:p.length≤65)(hp:Fl k p)(hk:k≤68719476736):Contract prg 48 [pq p] (.tup [pq (deriveL p),.nilI]):=by
 have:=CPo.Derive (p.map mkR) (chk_map zp lp) (fit_mapk (fl_mono hp (by omega)))
 rwa[vals_mkR] at this
theorem Div{h b:Nat}(p q:List Rat)(zp:lastZ p=false)(zq:lastZ q=false)(hq0:q≠[])(lp:p.length≤65)(lq:q.length≤65)(hp:Ch h p)(hq:Ch b q)(h1:1≤h)(hb1:1≤b)(hk:2*(h+(p.length+1-q.length)*(b+1))+3*b+5≤68719476736):Contract prg 78 [pq p,pq q] (.tup [pq (divL p q).1,pq (divL p q).2,.nilI]):=by
 have hck:=CPl.checks2 (p.map mkR) (q.map mkR) (fitQ (hp.fl h1) (by omega)) (fitQ (hq.fl hb1) (by omega))
 rw[chk2_zero (chk_map zp lp) (chk_map zq lq)] at hck
 have hd:=CPl.divide p q zq hq0 hp hq h1 hb1 (by omega) (by omega) hk
 have:=List.length_pos_iff.2 hq0
 exact poly_Div.e1 _ _ _ _ hck (by rw[lenM];omega) hd
end PQ
namespace RQ
theorem Add{a b:Nat}(p q:List Rat)(zp:lastZ p=false)(zq:lastZ q=false)(lp:p.length≤65)(lq:q.length≤65)(hp:Fl a p)(hq:Fl b q)(ha:1≤a)(hb:1≤b)(hk:a+b+2≤68719476736):Contract prg 90 [pq p,pq q] (.tup [pq (trimL (addL p q)),vI 0]):=by
 have hck:=CPr.both (p.map mkR) (q.map mkR) (fitQ hp (by omega)) (fitQ hq (by omega))
 rw[chk2_zero (chk_map zp lp) (chk_map zq lq)] at hck
 have h:=CPr.plus (d:=1) p q ((1:Int):Rat) 0 (by omega) (by omega) hp hq (by decide) ha hb (by omega)
 rw[show ((1:Int):Rat)=1 from rfl,smulL_one] at h
 exact linkworkref05_Add.e1 _ _ _ _ _ hck rfl (CRb.Of 1 (by unfold InI64;omega)) h
theorem Mul{a b:Nat}(n:Nat)(p q:List Rat)(zp:lastZ p=false)(zq:lastZ q=false)(lp:p.length≤65)(lq:q.length≤65)(hp:Fl a p)(hq:Fl b q)(ha:1≤a)(hb:1≤b)(hn:p.length≤n∨q.length≤n)(hpq:p.length+q.length≤66)(hk:(n+1)*(a+b+1)+1≤68719476736):Contract prg 89 [pq p,pq q] (.tup [pq (trimL (mulL p q)),vI 0]):=by
 have k1:1*(a+b+1)≤(n+1)*(a+b+1):=Nat.mul_le_mul_right _ (by omega)
 have hck:=CPr.both (p.map mkR) (q.map mkR) (fitQ hp (by omega)) (fitQ hq (by omega))
 rw[chk2_zero (chk_map zp lp) (chk_map zq lq)] at hck
 have tm:=CPr.times n p q (by omega) (by omega) hp hq ha hb hn hk
 have hl:=mul_len65 p q hpq
 exact linkworkref05_Mul.e1 _ _ _ _ _ _ hck rfl tm (linkworkref05_limited.e1 _ (by rw[lenM];exact hl))
theorem Scale{a d:Nat}(p:List Rat)(c:Rat)(zp:lastZ p=false)(lp:p.length≤65)(hp:Fl a p)(hc:ht c≤d)(ha:1≤a)(hk:a+d+2≤68719476736):Contract prg 87 [pq p,(mkR c).pv] (.tup [pq (trimL (smulL c p)),vI 0]):=by
 have hck:=CRe.Check (p.map mkR) (fitQ hp (by omega))
 rw[chk_map zp lp] at hck
 exact linkworkref05_Scale.e1 _ _ _ _ hck rfl (CPr.plus (a:=1) (d:=d) [] p c 0 (by simp) (by omega) (fun x hx=>by cases hx) hp hc (by omega) ha (by omega))
theorem Div{h b:Nat}(p q:List Rat)(zp:lastZ p=false)(zq:lastZ q=false)(hq0:q≠[])(lp:p.length≤65)(lq:q.length≤65)(hp:Ch h p)(hq:Ch b q)(h1:1≤h)(hb1:1≤b)(hk:2*(h+(p.length+1-q.length)*(b+1))+3*b+5≤68719476736):Contract prg 85 [pq p,pq q] (.tup [pq (divL p q).1,pq (divL p q).2,vI 0]):=by
 have hck:=CPr.both (p.map mkR) (q.map mkR) (fitQ (hp.fl h1) (by omega)) (fitQ (hq.fl hb1) (by omega))
 rw[chk2_zero (chk_map zp lp) (chk_map zq lq)] at hck
 have hd:=CPr.divide p q zq hq0 hp hq h1 hb1 (by omega) (by omega) hk
 have:=List.length_pos_iff.2 hq0
 exact linkworkref05_Div.e2 _ _ _ _ _ hck rfl (by rw[lenM];omega) hd
theorem gcd_loop{a b N:Nat}(ha:1≤a)(hab:a≤b)(hN:N≤1000)(hk:4*xB a b (N+2)+10≤68719476736):∀(n i j:Nat) (p q:List Rat),q.length<n→Euc a b N i j p q→p.length≤10000→linkworkref05_gcd.Loop1 (p.map mkR) (q.map mkR) (pq (gcdF n p q)):=by
 have hx:xB a b (N+2)=xB a b N+2*(xB a b (N+1)+1):=rfl
 have x1:∀j,1≤xB a b j:=fun j=>Nat.le_trans ha (xB_le a b hab (i:=0) (Nat.zero_le _))
 intro n
 induction n with
 |zero=>intro i j p q hn;omega
 |succ n ih =>
  intro i j p q hn e hl
  have hi:=e.idx
  have hij:=e.lt
  rw[gcdF]
  by_cases h:q.length=0
  ·rw[beq_iff.2 h,cond_true]
   have:=xB_le a b hab (i:=i) (j:=N+1) (by omega)
   exact linkworkref05_gcd.l11 _ _ (by rw[lenM];omega)
  ·have hne:q≠[]:=fun e=>h (by rw[e];rfl)
   rw[beq_fal.2 h,cond_false]
   obtain⟨r1,r2⟩:=e.rest hab hne
   have hz:=restL_trim p q
   have hlen:=e.len
   have hbd:=e.bound
   have b1:=xB_le a b hab (i:=j+(p.length-q.length)) (j:=N+1) (by omega)
   have hd:=CPr.divide p q e.zq hne e.hp e.hq (x1 i) (x1 j) hl (by omega) (by
    obtain⟨j',rfl⟩:∃j',j=j'+1:=⟨j-1,by omega⟩
    obtain⟨d,hd⟩:∃d,p.length-q.length=d+1:=⟨p.length-q.length-1,by omega⟩
    have h2:=xB_le a b hab (i:=i) (j:=j') (by omega)
    have h3:=xB_gap a b hab j' d
    have h4:=xB_le a b hab (i:=j'+1+(d+1)) (j:=N+1) (by omega)
    have h5:=xB_le a b hab (i:=j'+1) (j:=N) (by omega)
    rw[show p.length+1-q.length=d+2 from by omega]
    omega)
   have hm:=CPr.monic (restL p q) hz r1 (x1 _) (by omega) (by omega)
   exact linkworkref05_gcd.l10 _ _ _ _ _ (by rw[lenM];omega) hd hm (ih _ _ q _ (by rw[monicL_len hz];omega) (e.next hab hne (r1.monic (x1 _) hz) (by rw[monicL_len hz];exact r2) (monicL_trim _)) (by omega))
theorem gcd_any{h b c L:Nat}(h1:1≤h)(hb1:1≤b)(hbc:b≤c)(hL:L≤65)(hc:h+(L+1)*(b+1)≤c)(hk:4*xB b c (L+2)+10≤68719476736)(p q:List Rat)(zp:lastZ p=false)(zq:lastZ q=false)(lp:p.length≤L)(lq:q.length≤L)(hp:Ch h p)(hq:Ch b q) :
  linkworkref05_gcd.Loop1 (p.map mkR) (q.map mkR) (pq (gcdF (q.length+1) p q)):=by
 have e2:xB b c (L+2)=xB b c L+2*(xB b c (L+1)+1):=rfl
 have e1:=xB_le b c hbc (i:=1) (j:=L+1) (by omega)
 have e0:xB b c 1=c:=rfl
 have hm:(p.length+1-q.length)*(b+1)≤(L+1)*(b+1):=Nat.mul_le_mul_right _ (by omega)
 rw[gcdF]
 by_cases h0:q.length=0
 ·rw[beq_iff.2 h0,cond_true]
  exact linkworkref05_gcd.l11 _ _ (by rw[lenM];omega)
 ·have hne:q≠[]:=fun e=>h0 (by rw[e];rfl)
  rw[beq_fal.2 h0,cond_false]
  have hr:=hp.rest hq zq hne
  have hrl:(restL p q).length<q.length:=(divL_spec p zq hne).1
  have hz:=restL_trim p q
  have hr1:Ch c (restL p q):=hr.mono (by omega)
  have hd:=CPr.divide p q zq hne hp hq h1 hb1 (by omega) (by omega) (by omega)
  have hm:=CPr.monic (restL p q) hz hr1 (by omega) (by omega) (by omega)
  have hE:Euc b c L 0 1 q (monicL (restL p q)):=⟨hq,hr1.monic (by omega) hz,by omega,by rw[monicL_len hz];exact hrl,by omega,zq,monicL_trim _⟩
  exact linkworkref05_gcd.l10 _ _ _ _ _ (by rw[lenM];omega) hd hm (gcd_loop hb1 hbc (by omega) hk q.length 0 1 q _ (by rw[monicL_len hz];exact hrl) hE (by omega))
theorem Gcd{h b c L:Nat}(h1:1≤h)(hb1:1≤b)(hbc:b≤c)(hL:L≤65)(hc:h+(L+1)*(b+1)≤c)(hk:4*xB b c (L+2)+10≤68719476736)(p q:List Rat)(zp:lastZ p=false)(zq:lastZ q=false)(lp:p.length≤L)(lq:q.length≤L)(hp:Ch h p)(hq:Ch b q):Contract prg 84 [pq p,pq q] (.tup [pq (gcdL p q),vI 0]):=by
 have e2:xB b c (L+2)=xB b c L+2*(xB b c (L+1)+1):=rfl
 have e1:=xB_le b c hbc (i:=1) (j:=L+1) (by omega)
 have e0:xB b c 1=c:=rfl
 have hck:=CPr.both (p.map mkR) (q.map mkR) (fitQ (hp.fl h1) (by omega)) (fitQ (hq.fl hb1) (by omega))
 rw[chk2_zero (chk_map zp (by omega)) (chk_map zq (by omega))] at hck
 have m1:=CPr.monic p zp hp h1 (by omega) (by omega)
 have m2:=CPr.monic q zq hq hb1 (by omega) (by omega)
 have:=gcd_any h1 hb1 hbc hL hc hk (monicL p) (monicL q) (monicL_trim _) (monicL_trim _) (by rw[monicL_len zp];exact lp) (by rw[monicL_len zq];exact lq) (hp.monic h1 zp) (hq.monic hb1 zq)
 rw[monicL_len zq,gcd_ref p q zp zq] at this
 exact linkworkref05_Gcd.e1 _ _ _ _ hck rfl (linkworkref05_gcd.e0 _ _ _ _ m1 m2 this)
end RQ
end Go.Proofs.YtboilcfohmmpbaaGreatDoor.Sym
namespace Go.Proofs.YtboilcfohmmpbaaGreatDoor.Sym.Path
open Go
set_option maxRecDepth 20000
set_option linter.unusedVariables false
namespace resultant_detM
@[reducible] noncomputable def fn:Func:=Tryz.f45
noncomputable def atK1:List Itm:=focus [0,2,0,2,0,0,2,0,0] [.code (bodyOf fn)]
def inv1(len_200000:Nat)(H:List (Nat×Nat))(t_14:Nat)(site_4:ARat)(rows_200000:List (Nat×Nat))(heap:List (List ARat)):St:=⟨[(0,(.row 200000 0 len_200000 1)),(2,(.ptr 2 0)),(4,(.ptr 4 0)),(13,(eI (H.length:Int))),(14,(eI (t_14:Int)))],[(2,(.lit [(eB false),(.pv (.list [])),(.pv (.list []))])),(4,(.lit [(eB site_4.neg),(.pv (wordsPV site_4.num)),(.pv (wordsPV site_4.den))])),(200000,(.mats rows_200000 3)),(999999,(.heap (hrows ARat.cells (heap:List (List ARat)))))]⟩
@[reducible] noncomputable def Loop1(len_200000:Nat)(H:List (Nat×Nat))(t_14:Nat)(site_4:ARat)(rows_200000:List (Nat×Nat))(heap:List (List ARat))(sin:Sto)(r:EV)(sout:Sto):Prop:=LX prg fn atK1 (inv1 len_200000 H t_14 site_4 rows_200000 heap) sin r sout
noncomputable def atK2:List Itm:=focus [0,2,0,2,0,0,2,0,0,0,0,2,0,0,2,0,0,0,2,0,2,0,0,0] [.code (bodyOf fn)]
def inv2(len_200000 c_5 at_6:Nat)(H:List (Nat×Nat))(t_14:Nat)(site_4:ARat)(rows_200000:List (Nat×Nat))(heap:List (List ARat)):St:=⟨[(0,(.row 200000 0 len_200000 1)),(2,(.ptr 2 0)),(4,(.ptr 4 0)),(5,(eI (c_5:Int))),(6,(eI (at_6:Int))),(13,(eI (H.length:Int))),(14,(eI (t_14:Int)))],[(2,(.lit [(eB false),(.pv (.list [])),(.pv (.list []))])),(4,(.lit [(eB site_4.neg),(.pv (wordsPV site_4.num)),(.pv (wordsPV site_4.den))])),(200000,(.mats rows_200000 3)),(999999,(.heap (hrows ARat.cells (heap:List (List ARat)))))]⟩
@[reducible] noncomputable def Loop2(len_200000 c_5 at_6:Nat)(H:List (Nat×Nat))(t_14:Nat)(site_4:ARat)(rows_200000:List (Nat×Nat))(heap:List (List ARat))(sin:Sto)(r:EV)(sout:Sto):Prop:=LX prg fn atK2 (inv2 len_200000 c_5 at_6 H t_14 site_4 rows_200000 heap) sin r sout
noncomputable def atK3:List Itm:=focus [0,2,0,2,0,0,2,0,0,0,0,2,0,0,2,0,0,0,2,0,2,0,0,0,0,0,0,2,1,2,2,2,2,0,0,2,1,2,0,0,2,1,2,0,2,0,2,0,0] [.code (bodyOf fn)]
def inv3(len_200000 c_5 i_7:Nat)(H:List (Nat×Nat))(t_14:Nat)(mul:ARat)(rows_200000:List (Nat×Nat))(heap:List (List ARat)):St:=⟨[(0,(.row 200000 0 len_200000 1)),(2,(.ptr 2 0)),(4,(.ptr 4 0)),(5,(eI (c_5:Int))),(7,(eI (i_7:Int))),(13,(eI (H.length:Int))),(14,(eI (t_14:Int)))],[(2,(.lit [(eB false),(.pv (.list [])),(.pv (.list []))])),(4,(.lit [(eB mul.neg),(.pv (wordsPV mul.num)),(.pv (wordsPV mul.den))])),(200000,(.mats rows_200000 3)),(999999,(.heap (hrows ARat.cells (heap:List (List ARat)))))]⟩
@[reducible] noncomputable def Loop3(len_200000 c_5 i_7:Nat)(H:List (Nat×Nat))(t_14:Nat)(mul:ARat)(rows_200000:List (Nat×Nat))(heap:List (List ARat))(sin:Sto)(r:EV)(sout:Sto):Prop:=LX prg fn atK3 (inv3 len_200000 c_5 i_7 H t_14 mul rows_200000 heap) sin r sout
noncomputable def atK4:List Itm:=focus [0,2,0,2,0,0,2,0,0,0,0,2,0,0,2,0,0,0,2,0,2,0,0,0,0,0,0,2,1,2,2,2,2,0,0,2,1,2,0,0,2,1,2,0,2,0,2,0,0,0,0,0,2,0,2,0,0,0,0,2,1,2,0,2,0,0,2,1,2,0,2,0,0] [.code (bodyOf fn)]
def inv4(len_200000 c_5 i_7 k_10:Nat)(H:List (Nat×Nat))(t_14:Nat)(mul div:ARat)(rows_200000:List (Nat×Nat))(heap:List (List ARat)):St:=⟨[(0,(.row 200000 0 len_200000 1)),(2,(.ptr 2 0)),(4,(.ptr 4 0)),(5,(eI (c_5:Int))),(7,(eI (i_7:Int))),(8,(.ptr 8 0)),(10,(eI (k_10:Int))),(13,(eI (H.length:Int))),(14,(eI (t_14:Int)))],[(2,(.lit [(eB false),(.pv (.list [])),(.pv (.list []))])),(4,(.lit [(eB mul.neg),(.pv (wordsPV mul.num)),(.pv (wordsPV mul.den))])),(8,(.lit [(eB div.neg),(.pv (wordsPV div.num)),(.pv (wordsPV div.den))])),(200000,(.mats rows_200000 3)),(999999,(.heap (hrows ARat.cells (heap:List (List ARat)))))]⟩
@[reducible] noncomputable def Loop4(len_200000 c_5 i_7 k_10:Nat)(H:List (Nat×Nat))(t_14:Nat)(mul div:ARat)(rows_200000:List (Nat×Nat))(heap:List (List ARat))(sin:Sto)(r:EV)(sout:Sto):Prop:=LX prg fn atK4 (inv4 len_200000 c_5 i_7 k_10 H t_14 mul div rows_200000 heap) sin r sout
theorem e0(H:List (Nat×Nat))(X:List (List ARat))(of:ARat){r:EV}{sout:Sto}(h1:Contract prg 29 [(vI 1)] of.pv)(hL:Loop1 H.length H 0 of H X [(200000,(.mats H 3)),(999999,(.heap (hrows ARat.cells (X:List (List ARat)))))] r sout):ContractX prg 45 [(.row 200000 0 H.length 1)] [(200000,(.mats H 3)),(999999,(.heap (hrows ARat.cells (X:List (List ARat)))))] r sout :=
 ContractX.ofL Tryz.func45 (by kernel_rfl) (LX.go mixed tabOk (n:=87) (ns:=[1]) (tr:=[.reg [],.reg [(.pv of.pv)],.reg [],.keep [0,2,4,13,14],.ord [2,4,200000,999999]]) rfl (cj h1 True.intro) (by kernel_rfl) hL)
theorem l10(len_200000:Nat)(H:List (Nat×Nat))(t_14:Nat)(site_4:ARat)(rows_200000:List (Nat×Nat))(heap:List (List ARat)){r:EV}{sout:Sto}{sin:Sto}(hs:sin.all (fun p=>Nat.ble fn.ntmps p.1)=true)(h1:t_14<H.length)(hL:Loop2 len_200000 t_14 t_14 H t_14 site_4 rows_200000 heap sin r sout):Loop1 len_200000 H t_14 site_4 rows_200000 heap sin r sout :=
 LX.go mixed tabOk (n:=132) (ns:=[1]) (tr:=[.auto,.reg [],.dec true,.reg [],.reg [],.keep [0,2,4,5,6,13,14]]) hs (cj (dltN_t h1) True.intro) (by kernel_rfl) hL
theorem l11(len_200000:Nat)(H:List (Nat×Nat))(t_14:Nat)(site_4:ARat)(rows_200000:List (Nat×Nat))(heap:List (List ARat)){sin:Sto}(hs:sin.all (fun p=>Nat.ble fn.ntmps p.1)=true)(hg:sin.all (fun p=>gvB p.1)=true)(h1:H.length≤t_14):Loop1 len_200000 H t_14 site_4 rows_200000 heap sin (.pv (.tup [site_4.pv,.nilI])) [] :=
 LX.doneG mixed tabOk (n:=120) (ns:=[1]) (tr:=[.auto,.reg [],.dec false,.reg []]) hs hg (cj (dltN_f h1) True.intro) (by kernel_rfl)
theorem l20(len_200000 c_5 at_6:Nat)(H:List (Nat×Nat))(t_14:Nat)(site_4:ARat)(rows_200000:List (Nat×Nat))(heap:List (List ARat))(j l:Nat)(rV:List ARat)(v:ARat)(sig:Int){r:EV}{sout:Sto}{sin:Sto}(hs:sin.all (fun p=>Nat.ble fn.ntmps p.1)=true)(h1:at_6<len_200000)(h2:rows_200000[at_6]? = some (j,l))(h3:c_5<l)(h4:heap[j]? = some rV)(h5:rV[c_5]? = some v)(h6:Contract prg 31 [v.pv] (vI sig))(h7:sig=0)(h8:(at_6+1)<9223372036854775808)(hL:Loop2 len_200000 c_5 (at_6+1) H t_14 site_4 rows_200000 heap sin r sout):Loop2 len_200000 c_5 at_6 H t_14 site_4 rows_200000 heap sin r sout :=
 LX.go mixed tabOk (n:=159) (ns:=[1,1,1,2,1,1,1,1,2,1,3,1,1,1,1,1,1]) (tr:=[.auto,.reg [.none,.none,.none,.none,.none,.none,.none,(.nat at_6),(.ev (.mrow j l 3)),.none,(.nat c_5),(.mseg ((rV:List ARat).map ARat.cells).flatten [(vB v.neg),(wordsPV v.num),(wordsPV v.den)]),(.pv (vI sig)),.none,(.dec true)],.dec true,.reg [.none,(iI (((at_6+1):Nat):Int))],.keep [0,2,4,5,6,13,14]]) hs (cj (dltN_t h1) (cj (dltN_t h1) (cj (dltN_t h1) (cj (cj (Eq.refl (((at_6:Nat):Int):Int)) h1) (cj (dltN_t h1) (cj (o_mload 3 h2) (cj (dltN_t h1) (cj (dltN_t h1) (cj (cj (Eq.refl (((c_5:Nat):Int):Int)) h3) (cj (dltN_t h1) (cj (o_mseg sz_ARat h4 h5) (cj (dltN_t h1) (cj h6 (cj (dltN_t h1) (cj (dltN_t h1) (cj (deq_t h7) (cj (bs_addN h8) True.intro))))))))))))))))) (by kernel_rfl) hL
theorem l22_any0(len_200000 c_5 at_6:Nat)(H:List (Nat×Nat))(t_14:Nat)(site_4:ARat)(rows_200000:List (Nat×Nat))(heap:List (List ARat))(j l j1 l1:Nat)(neg:ARat):anyL prg tab fn.ntmps (opsAt (focus [0,2,0,2,0,0,2,0,0,0,0,2,0,0,2,0,0,0,2,0,2,0,0,0,0,0,0,2,1,2,2,2,2,0,0,2,1,2,0,0,2,0,0] [.code (bodyOf fn)])) (allF (opsAt (focus [0,2,0,2,0,0,2,0,0,0,0,2,0,0,2,0,0,0,2,0,2,0,0,0,0,0,0,2,1,2,2,2,2,0,0,2,1,2,0,0,2,0,0] [.code (bodyOf fn)])) [0,1,2,3,4,5,8,9]) (downs (opsAt (focus [0,2,0,2,0,0,2,0,0,0,0,2,0,0,2,0,0,0,2,0,2,0,0,0,0,0,0,2,1,2,2,2,2,0,0,2,1,2,0,0,2,0,0] [.code (bodyOf fn)])) [0,1,2,3,4,5,8,9]) [.none,.none,.none,.none,.none,.none,(.nat c_5),(.ev (.mrow j1 l1 3)),.none,.none,(.nat at_6),(.ev (.mrow j l 3)),(.nat at_6),(.cells (.mats (rows_200000.set at_6 (j1,l1)) 3)),(.nat c_5),(.cells (.mats ((rows_200000.set at_6 (j1,l1)).set c_5 (j,l)) 3))] (flS tab fn.ntmps (opsAt (focus [0,2,0,2,0,0,2,0,0,0,0,2,0,0,2,0,0,0,2,0,2,0,0,0,0,0,0,2,1,2,2,2,2,0,0,2,1,2,0,0,2,0,0] [.code (bodyOf fn)])) [0,1,2,3,4,5,8,9] ⟨[(0,(.row 200000 0 len_200000 1)),(2,(.ptr 2 0)),(4,(.ptr 4 0)),(5,(eI (c_5:Int))),(6,(eI (at_6:Int))),(13,(eI (H.length:Int))),(14,(eI (t_14:Int)))],[(2,(.lit [(eB false),(.pv (.list [])),(.pv (.list []))])),(4,(.lit [(eB site_4.neg),(.pv (wordsPV site_4.num)),(.pv (wordsPV site_4.den))])),(200000,(.mats rows_200000 3)),(999999,(.heap (hrows ARat.cells (heap:List (List ARat)))))]⟩)=anyR prg tab fn.ntmps (opsAt (focus [0,2,0,2,0,0,2,0,0,0,0,2,0,0,2,0,0,0,2,0,2,0,0,0,0,0,0,2,1,2,2,2,2,0,0,2,1,2,0,0,2,0,0] [.code (bodyOf fn)])) (allF (opsAt (focus [0,2,0,2,0,0,2,0,0,0,0,2,0,0,2,0,0,0,2,0,2,0,0,0,0,0,0,2,1,2,2,2,2,0,0,2,1,2,0,0,2,0,0] [.code (bodyOf fn)])) [0,1,2,3,4,5,8,9]) (downs (opsAt (focus [0,2,0,2,0,0,2,0,0,0,0,2,0,0,2,0,0,0,2,0,2,0,0,0,0,0,0,2,1,2,2,2,2,0,0,2,1,2,0,0,2,0,0] [.code (bodyOf fn)])) [0,1,2,3,4,5,8,9]) [.none,.none,.none,.none,.none,.none,(.nat c_5),(.ev (.mrow j1 l1 3)),.none,.none,(.nat at_6),(.ev (.mrow j l 3)),(.nat at_6),(.cells (.mats (rows_200000.set at_6 (j1,l1)) 3)),(.nat c_5),(.cells (.mats ((rows_200000.set at_6 (j1,l1)).set c_5 (j,l)) 3))] (flS tab fn.ntmps (opsAt (focus [0,2,0,2,0,0,2,0,0,0,0,2,0,0,2,0,0,0,2,0,2,0,0,0,0,0,0,2,1,2,2,2,2,0,0,2,1,2,0,0,2,0,0] [.code (bodyOf fn)])) [0,1,2,3,4,5,8,9] ⟨[(0,(.row 200000 0 len_200000 1)),(2,(.ptr 2 0)),(4,(.ptr 4 0)),(5,(eI (c_5:Int))),(6,(eI (at_6:Int))),(13,(eI (H.length:Int))),(14,(eI (t_14:Int)))],[(2,(.lit [(eB false),(.pv (.list [])),(.pv (.list []))])),(4,(.lit [(eB site_4.neg),(.pv (wordsPV site_4.num)),(.pv (wordsPV site_4.den))])),(200000,(.mats rows_200000 3)),(999999,(.heap (hrows ARat.cells (heap:List (List ARat)))))]⟩):=by kernel_rfl
theorem l22_any1(len_200000 c_5 at_6:Nat)(H:List (Nat×Nat))(t_14:Nat)(rows_200000:List (Nat×Nat))(heap:List (List ARat))(j l j1 l1:Nat)(neg:ARat)(j2 l2:Nat)(rV1:List ARat)(v1 mul:ARat):anyL prg tab fn.ntmps (opsAt (focus [0,2,0,2,0,0,2,0,0,0,0,2,0,0,2,0,0,0,2,0,2,0,0,0,0,0,0,2,1,2,2,2,2,0,0,2,1,2,0,0,2,0,0,2,2,0] [.code (bodyOf fn)])) (allF (opsAt (focus [0,2,0,2,0,0,2,0,0,0,0,2,0,0,2,0,0,0,2,0,2,0,0,0,0,0,0,2,1,2,2,2,2,0,0,2,1,2,0,0,2,0,0,2,2,0] [.code (bodyOf fn)])) [1,2,5]) (downs (opsAt (focus [0,2,0,2,0,0,2,0,0,0,0,2,0,0,2,0,0,0,2,0,2,0,0,0,0,0,0,2,1,2,2,2,2,0,0,2,1,2,0,0,2,0,0,2,2,0] [.code (bodyOf fn)])) [1,2,5]) [.none,.none,.none,(.nat c_5),(.ev (.mrow j2 l2 3)),.none,(.nat c_5),(.mseg ((rV1:List ARat).map ARat.cells).flatten [(vB v1.neg),(wordsPV v1.num),(wordsPV v1.den)]),(.pv mul.pv),.none] (flS tab fn.ntmps (opsAt (focus [0,2,0,2,0,0,2,0,0,0,0,2,0,0,2,0,0,0,2,0,2,0,0,0,0,0,0,2,1,2,2,2,2,0,0,2,1,2,0,0,2,0,0,2,2,0] [.code (bodyOf fn)])) [1,2,5] ⟨[(0,(.row 200000 0 len_200000 1)),(2,(.ptr 2 0)),(4,(.ptr 4 0)),(5,(eI (c_5:Int))),(13,(eI (H.length:Int))),(14,(eI (t_14:Int)))],[(2,(.lit [(eB false),(.pv (.list [])),(.pv (.list []))])),(4,(.lit [(eB neg.neg),(.pv (wordsPV neg.num)),(.pv (wordsPV neg.den))])),(200000,(.mats ((rows_200000.set at_6 (j1,l1)).set c_5 (j,l)) 3)),(999999,(.heap (hrows ARat.cells (heap:List (List ARat)))))]⟩)=anyR prg tab fn.ntmps (opsAt (focus [0,2,0,2,0,0,2,0,0,0,0,2,0,0,2,0,0,0,2,0,2,0,0,0,0,0,0,2,1,2,2,2,2,0,0,2,1,2,0,0,2,0,0,2,2,0] [.code (bodyOf fn)])) (allF (opsAt (focus [0,2,0,2,0,0,2,0,0,0,0,2,0,0,2,0,0,0,2,0,2,0,0,0,0,0,0,2,1,2,2,2,2,0,0,2,1,2,0,0,2,0,0,2,2,0] [.code (bodyOf fn)])) [1,2,5]) (downs (opsAt (focus [0,2,0,2,0,0,2,0,0,0,0,2,0,0,2,0,0,0,2,0,2,0,0,0,0,0,0,2,1,2,2,2,2,0,0,2,1,2,0,0,2,0,0,2,2,0] [.code (bodyOf fn)])) [1,2,5]) [.none,.none,.none,(.nat c_5),(.ev (.mrow j2 l2 3)),.none,(.nat c_5),(.mseg ((rV1:List ARat).map ARat.cells).flatten [(vB v1.neg),(wordsPV v1.num),(wordsPV v1.den)]),(.pv mul.pv),.none] (flS tab fn.ntmps (opsAt (focus [0,2,0,2,0,0,2,0,0,0,0,2,0,0,2,0,0,0,2,0,2,0,0,0,0,0,0,2,1,2,2,2,2,0,0,2,1,2,0,0,2,0,0,2,2,0] [.code (bodyOf fn)])) [1,2,5] ⟨[(0,(.row 200000 0 len_200000 1)),(2,(.ptr 2 0)),(4,(.ptr 4 0)),(5,(eI (c_5:Int))),(13,(eI (H.length:Int))),(14,(eI (t_14:Int)))],[(2,(.lit [(eB false),(.pv (.list [])),(.pv (.list []))])),(4,(.lit [(eB neg.neg),(.pv (wordsPV neg.num)),(.pv (wordsPV neg.den))])),(200000,(.mats ((rows_200000.set at_6 (j1,l1)).set c_5 (j,l)) 3)),(999999,(.heap (hrows ARat.cells (heap:List (List ARat)))))]⟩):=by kernel_rfl
theorem l22(len_200000 c_5 at_6:Nat)(H:List (Nat×Nat))(t_14:Nat)(site_4:ARat)(rows_200000:List (Nat×Nat))(heap:List (List ARat))(j l:Nat)(rV:List ARat)(v:ARat)(sig:Int)(j1 l1:Nat)(neg:ARat)(j2 l2:Nat)(rV1:List ARat)(v1 mul:ARat){r:EV}{sout:Sto}{sin:Sto}(hs:sin.all (fun p=>Nat.ble fn.ntmps p.1)=true)(h1:at_6<len_200000)(h2:rows_200000[at_6]? = some (j,l))(h3:c_5<l)(h4:heap[j]? = some rV)(h5:rV[c_5]? = some v)(h6:Contract prg 31 [v.pv] (vI sig))(h7:sig≠0)(h8:at_6≠len_200000)(h9:at_6≠c_5)(h10:c_5<len_200000)(h11:rows_200000[c_5]? = some (j1,l1))(h12:at_6<rows_200000.length)(h13:c_5<(rows_200000.set at_6 (j1,l1)).length)(h14:Contract prg 23 [site_4.pv] neg.pv)(h15:((rows_200000.set at_6 (j1,l1)).set c_5 (j,l))[c_5]? = some (j2,l2))(h16:c_5<l2)(h17:heap[j2]? = some rV1)(h18:rV1[c_5]? = some v1)(h19:Contract prg 25 [neg.pv,v1.pv] mul.pv)(h20:(c_5+1)<9223372036854775808)(hL:Loop3 len_200000 c_5 (c_5+1) H t_14 mul ((rows_200000.set at_6 (j1,l1)).set c_5 (j,l)) heap sin r sout):Loop2 len_200000 c_5 at_6 H t_14 site_4 rows_200000 heap sin r sout :=
 LX.go mixed tabOk (n:=213) (ns:=[1,1,1,2,1,1,1,1,2,1,3,1,1,1,1,1,1,1,2,1,2,1,2,2,2,2,1,1,2,1,2,3,1,1,1]) (tr:=[.auto,.reg [.none,.none,.none,.none,.none,.none,.none,(.nat at_6),(.ev (.mrow j l 3)),.none,(.nat c_5),(.mseg ((rV:List ARat).map ARat.cells).flatten [(vB v.neg),(wordsPV v.num),(wordsPV v.den)]),(.pv (vI sig)),.none,(.dec true)],.dec false,.reg [],.dec false,.reg [],.dec true,.keep [0,2,4,5,6,13,14],.any [0,1,2,3,4,5,8,9] [.none,.none,.none,.none,.none,.none,(.nat c_5),(.ev (.mrow j1 l1 3)),.none,.none,(.nat at_6),(.ev (.mrow j l 3)),(.nat at_6),(.cells (.mats (rows_200000.set at_6 (j1,l1)) 3)),(.nat c_5),(.cells (.mats ((rows_200000.set at_6 (j1,l1)).set c_5 (j,l)) 3))],.reg [.none,(.pv neg.pv)],.keep [0,2,4,5,13,14],.any [1,2,5] [.none,.none,.none,(.nat c_5),(.ev (.mrow j2 l2 3)),.none,(.nat c_5),(.mseg ((rV1:List ARat).map ARat.cells).flatten [(vB v1.neg),(wordsPV v1.num),(wordsPV v1.den)]),(.pv mul.pv),.none],.reg [.none,(iI (((c_5+1):Nat):Int))],.keep [0,2,4,5,7,13,14]]) hs (cj (dltN_t h1) (cj (dltN_t h1) (cj (dltN_t h1) (cj (cj (Eq.refl (((at_6:Nat):Int):Int)) h1) (cj (dltN_t h1) (cj (o_mload 3 h2) (cj (dltN_t h1) (cj (dltN_t h1) (cj (cj (Eq.refl (((c_5:Nat):Int):Int)) h3) (cj (dltN_t h1) (cj (o_mseg sz_ARat h4 h5) (cj (dltN_t h1) (cj h6 (cj (dltN_t h1) (cj (dltN_t h1) (cj (deq_f h7) (cj (deqN_f h8) (cj (dneN_t h9) (cj (cj (Eq.refl (((c_5:Nat):Int):Int)) h10) (cj (o_mload 3 h11) (cj (cj (Eq.refl (((at_6:Nat):Int):Int)) h1) (cj (o_mload 3 h2) (cj (cj (Eq.refl (((at_6:Nat):Int):Int)) h1) (cj (o_mput j1 l1 3 h12) (cj (cj (Eq.refl (((c_5:Nat):Int):Int)) h10) (cj (o_mput j l 3 h13) (cj (l22_any0 len_200000 c_5 at_6 H t_14 site_4 rows_200000 heap j l j1 l1 neg) (cj h14 (cj (cj (Eq.refl (((c_5:Nat):Int):Int)) h10) (cj (o_mload 3 h15) (cj (cj (Eq.refl (((c_5:Nat):Int):Int)) h16) (cj (o_mseg sz_ARat h17 h18) (cj h19 (cj (l22_any1 len_200000 c_5 at_6 H t_14 rows_200000 heap j l j1 l1 neg j2 l2 rV1 v1 mul) (cj (bs_addN h20) True.intro))))))))))))))))))))))))))))))))))) (by kernel_rfl) hL
theorem l23_any0(len_200000 c_5:Nat)(H:List (Nat×Nat))(t_14:Nat)(site_4:ARat)(rows_200000:List (Nat×Nat))(heap:List (List ARat))(j1 l1:Nat)(rV1:List ARat)(v1 mul:ARat):anyL prg tab fn.ntmps (opsAt (focus [0,2,0,2,0,0,2,0,0,0,0,2,0,0,2,0,0,0,2,0,2,0,0,0,0,0,0,2,1,2,2,2,2,0,0,2,1,2,0,0,2,1,2,0] [.code (bodyOf fn)])) (allF (opsAt (focus [0,2,0,2,0,0,2,0,0,0,0,2,0,0,2,0,0,0,2,0,2,0,0,0,0,0,0,2,1,2,2,2,2,0,0,2,1,2,0,0,2,1,2,0] [.code (bodyOf fn)])) [1,2,5]) (downs (opsAt (focus [0,2,0,2,0,0,2,0,0,0,0,2,0,0,2,0,0,0,2,0,2,0,0,0,0,0,0,2,1,2,2,2,2,0,0,2,1,2,0,0,2,1,2,0] [.code (bodyOf fn)])) [1,2,5]) [.none,.none,.none,(.nat c_5),(.ev (.mrow j1 l1 3)),.none,(.nat c_5),(.mseg ((rV1:List ARat).map ARat.cells).flatten [(vB v1.neg),(wordsPV v1.num),(wordsPV v1.den)]),(.pv mul.pv),.none] (flS tab fn.ntmps (opsAt (focus [0,2,0,2,0,0,2,0,0,0,0,2,0,0,2,0,0,0,2,0,2,0,0,0,0,0,0,2,1,2,2,2,2,0,0,2,1,2,0,0,2,1,2,0] [.code (bodyOf fn)])) [1,2,5] ⟨[(0,(.row 200000 0 len_200000 1)),(2,(.ptr 2 0)),(4,(.ptr 4 0)),(5,(eI (c_5:Int))),(13,(eI (H.length:Int))),(14,(eI (t_14:Int)))],[(2,(.lit [(eB false),(.pv (.list [])),(.pv (.list []))])),(4,(.lit [(eB site_4.neg),(.pv (wordsPV site_4.num)),(.pv (wordsPV site_4.den))])),(200000,(.mats rows_200000 3)),(999999,(.heap (hrows ARat.cells (heap:List (List ARat)))))]⟩)=anyR prg tab fn.ntmps (opsAt (focus [0,2,0,2,0,0,2,0,0,0,0,2,0,0,2,0,0,0,2,0,2,0,0,0,0,0,0,2,1,2,2,2,2,0,0,2,1,2,0,0,2,1,2,0] [.code (bodyOf fn)])) (allF (opsAt (focus [0,2,0,2,0,0,2,0,0,0,0,2,0,0,2,0,0,0,2,0,2,0,0,0,0,0,0,2,1,2,2,2,2,0,0,2,1,2,0,0,2,1,2,0] [.code (bodyOf fn)])) [1,2,5]) (downs (opsAt (focus [0,2,0,2,0,0,2,0,0,0,0,2,0,0,2,0,0,0,2,0,2,0,0,0,0,0,0,2,1,2,2,2,2,0,0,2,1,2,0,0,2,1,2,0] [.code (bodyOf fn)])) [1,2,5]) [.none,.none,.none,(.nat c_5),(.ev (.mrow j1 l1 3)),.none,(.nat c_5),(.mseg ((rV1:List ARat).map ARat.cells).flatten [(vB v1.neg),(wordsPV v1.num),(wordsPV v1.den)]),(.pv mul.pv),.none] (flS tab fn.ntmps (opsAt (focus [0,2,0,2,0,0,2,0,0,0,0,2,0,0,2,0,0,0,2,0,2,0,0,0,0,0,0,2,1,2,2,2,2,0,0,2,1,2,0,0,2,1,2,0] [.code (bodyOf fn)])) [1,2,5] ⟨[(0,(.row 200000 0 len_200000 1)),(2,(.ptr 2 0)),(4,(.ptr 4 0)),(5,(eI (c_5:Int))),(13,(eI (H.length:Int))),(14,(eI (t_14:Int)))],[(2,(.lit [(eB false),(.pv (.list [])),(.pv (.list []))])),(4,(.lit [(eB site_4.neg),(.pv (wordsPV site_4.num)),(.pv (wordsPV site_4.den))])),(200000,(.mats rows_200000 3)),(999999,(.heap (hrows ARat.cells (heap:List (List ARat)))))]⟩):=by kernel_rfl
theorem l23(len_200000 c_5 at_6:Nat)(H:List (Nat×Nat))(t_14:Nat)(site_4:ARat)(rows_200000:List (Nat×Nat))(heap:List (List ARat))(j l:Nat)(rV:List ARat)(v:ARat)(sig:Int)(j1 l1:Nat)(rV1:List ARat)(v1 mul:ARat){r:EV}{sout:Sto}{sin:Sto}(hs:sin.all (fun p=>Nat.ble fn.ntmps p.1)=true)(h1:at_6<len_200000)(h2:rows_200000[at_6]? = some (j,l))(h3:c_5<l)(h4:heap[j]? = some rV)(h5:rV[c_5]? = some v)(h6:Contract prg 31 [v.pv] (vI sig))(h7:sig≠0)(h8:at_6≠len_200000)(h9:at_6=c_5)(h10:c_5<len_200000)(h11:rows_200000[c_5]? = some (j1,l1))(h12:c_5<l1)(h13:heap[j1]? = some rV1)(h14:rV1[c_5]? = some v1)(h15:Contract prg 25 [site_4.pv,v1.pv] mul.pv)(h16:(c_5+1)<9223372036854775808)(hL:Loop3 len_200000 c_5 (c_5+1) H t_14 mul rows_200000 heap sin r sout):Loop2 len_200000 c_5 at_6 H t_14 site_4 rows_200000 heap sin r sout :=
 LX.go mixed tabOk (n:=207) (ns:=[1,1,1,2,1,1,1,1,2,1,3,1,1,1,1,1,1,1,2,1,2,3,1,1,1]) (tr:=[.auto,.reg [.none,.none,.none,.none,.none,.none,.none,(.nat at_6),(.ev (.mrow j l 3)),.none,(.nat c_5),(.mseg ((rV:List ARat).map ARat.cells).flatten [(vB v.neg),(wordsPV v.num),(wordsPV v.den)]),(.pv (vI sig)),.none,(.dec true)],.dec false,.reg [],.dec false,.reg [],.dec false,.keep [0,2,4,5,13,14],.any [1,2,5] [.none,.none,.none,(.nat c_5),(.ev (.mrow j1 l1 3)),.none,(.nat c_5),(.mseg ((rV1:List ARat).map ARat.cells).flatten [(vB v1.neg),(wordsPV v1.num),(wordsPV v1.den)]),(.pv mul.pv),.none],.reg [.none,(iI (((c_5+1):Nat):Int))],.keep [0,2,4,5,7,13,14]]) hs (cj (dltN_t h1) (cj (dltN_t h1) (cj (dltN_t h1) (cj (cj (Eq.refl (((at_6:Nat):Int):Int)) h1) (cj (dltN_t h1) (cj (o_mload 3 h2) (cj (dltN_t h1) (cj (dltN_t h1) (cj (cj (Eq.refl (((c_5:Nat):Int):Int)) h3) (cj (dltN_t h1) (cj (o_mseg sz_ARat h4 h5) (cj (dltN_t h1) (cj h6 (cj (dltN_t h1) (cj (dltN_t h1) (cj (deq_f h7) (cj (deqN_f h8) (cj (dneN_f h9) (cj (cj (Eq.refl (((c_5:Nat):Int):Int)) h10) (cj (o_mload 3 h11) (cj (cj (Eq.refl (((c_5:Nat):Int):Int)) h12) (cj (o_mseg sz_ARat h13 h14) (cj h15 (cj (l23_any0 len_200000 c_5 H t_14 site_4 rows_200000 heap j1 l1 rV1 v1 mul) (cj (bs_addN h16) True.intro))))))))))))))))))))))))) (by kernel_rfl) hL
theorem l24(len_200000 c_5 at_6:Nat)(H:List (Nat×Nat))(t_14:Nat)(site_4:ARat)(rows_200000:List (Nat×Nat))(heap:List (List ARat)){sin:Sto}(hs:sin.all (fun p=>Nat.ble fn.ntmps p.1)=true)(hg:sin.all (fun p=>gvB p.1)=true)(h1:len_200000≤at_6)(h2:at_6=len_200000):Loop2 len_200000 c_5 at_6 H t_14 site_4 rows_200000 heap sin (.pv (.tup [(⟨false,[],[]⟩:ARat).pv,.nilI])) [] :=
 LX.doneG mixed tabOk (n:=177) (ns:=[1,1,1,1,1,1,1,1,1,1,1]) (tr:=[.auto,.reg [.none,.none,.none,.none,.none,.skip,.skip,.skip,.skip,.skip,.skip,.skip,.skip,.skip,(.dec false)],.auto,.reg [],.dec true,.reg []]) hs hg (cj (dltN_f h1) (cj (dltN_f h1) (cj (dltN_f h1) (cj (dltN_f h1) (cj (dltN_f h1) (cj (dltN_f h1) (cj (dltN_f h1) (cj (dltN_f h1) (cj (dltN_f h1) (cj (dltN_f h1) (cj (deqN_t h2) True.intro))))))))))) (by kernel_rfl)
theorem l30(len_200000 c_5 i_7:Nat)(H:List (Nat×Nat))(t_14:Nat)(mul:ARat)(rows_200000:List (Nat×Nat))(heap:List (List ARat))(j l:Nat)(rV:List ARat)(v:ARat)(sig:Int){r:EV}{sout:Sto}{sin:Sto}(hs:sin.all (fun p=>Nat.ble fn.ntmps p.1)=true)(h1:i_7<len_200000)(h2:rows_200000[i_7]? = some (j,l))(h3:c_5<l)(h4:heap[j]? = some rV)(h5:rV[c_5]? = some v)(h6:Contract prg 31 [v.pv] (vI sig))(h7:sig=0)(h8:(i_7+1)<9223372036854775808)(hL:Loop3 len_200000 c_5 (i_7+1) H t_14 mul rows_200000 heap sin r sout):Loop3 len_200000 c_5 i_7 H t_14 mul rows_200000 heap sin r sout :=
 LX.go mixed tabOk (n:=255) (ns:=[1,2,1,2,3,1,1,1]) (tr:=[.auto,.reg [],.dec true,.reg [.none,.none,(.nat i_7),(.ev (.mrow j l 3)),.none,(.nat c_5),(.mseg ((rV:List ARat).map ARat.cells).flatten [(vB v.neg),(wordsPV v.num),(wordsPV v.den)]),(.pv (vI sig))],.dec true,.reg [.none,(iI (((i_7+1):Nat):Int))],.keep [0,2,4,5,7,13,14]]) hs (cj (dltN_t h1) (cj (cj (Eq.refl (((i_7:Nat):Int):Int)) h1) (cj (o_mload 3 h2) (cj (cj (Eq.refl (((c_5:Nat):Int):Int)) h3) (cj (o_mseg sz_ARat h4 h5) (cj h6 (cj (deq_t h7) (cj (bs_addN h8) True.intro)))))))) (by kernel_rfl) hL
theorem l31_any0(len_200000 c_5 i_7:Nat)(H:List (Nat×Nat))(t_14:Nat)(mul:ARat)(rows_200000:List (Nat×Nat))(heap:List (List ARat))(j l:Nat)(rV:List ARat)(v:ARat)(j1 l1:Nat)(rV1:List ARat)(v1 div:ARat):anyL prg tab fn.ntmps (opsAt (focus [0,2,0,2,0,0,2,0,0,0,0,2,0,0,2,0,0,0,2,0,2,0,0,0,0,0,0,2,1,2,2,2,2,0,0,2,1,2,0,0,2,1,2,0,2,0,2,0,0,0,0,0,2,0,2,0,0,0,0,2,1,2,0] [.code (bodyOf fn)])) (allF (opsAt (focus [0,2,0,2,0,0,2,0,0,0,0,2,0,0,2,0,0,0,2,0,2,0,0,0,0,0,0,2,1,2,2,2,2,0,0,2,1,2,0,0,2,1,2,0,2,0,2,0,0,0,0,0,2,0,2,0,0,0,0,2,1,2,0] [.code (bodyOf fn)])) [0,1,4,7,8,11]) (downs (opsAt (focus [0,2,0,2,0,0,2,0,0,0,0,2,0,0,2,0,0,0,2,0,2,0,0,0,0,0,0,2,1,2,2,2,2,0,0,2,1,2,0,0,2,1,2,0,2,0,2,0,0,0,0,0,2,0,2,0,0,0,0,2,1,2,0] [.code (bodyOf fn)])) [0,1,4,7,8,11]) [.none,.none,(.nat i_7),(.ev (.mrow j l 3)),.none,(.nat c_5),(.mseg ((rV:List ARat).map ARat.cells).flatten [(vB v.neg),(wordsPV v.num),(wordsPV v.den)]),.none,.none,(.nat c_5),(.ev (.mrow j1 l1 3)),.none,(.nat c_5),(.mseg ((rV1:List ARat).map ARat.cells).flatten [(vB v1.neg),(wordsPV v1.num),(wordsPV v1.den)]),(.pv (.tup [div.pv,.nilI])),.none,.none,.none,.none,.none,.none] (flS tab fn.ntmps (opsAt (focus [0,2,0,2,0,0,2,0,0,0,0,2,0,0,2,0,0,0,2,0,2,0,0,0,0,0,0,2,1,2,2,2,2,0,0,2,1,2,0,0,2,1,2,0,2,0,2,0,0,0,0,0,2,0,2,0,0,0,0,2,1,2,0] [.code (bodyOf fn)])) [0,1,4,7,8,11] ⟨[(0,(.row 200000 0 len_200000 1)),(2,(.ptr 2 0)),(4,(.ptr 4 0)),(5,(eI (c_5:Int))),(7,(eI (i_7:Int))),(13,(eI (H.length:Int))),(14,(eI (t_14:Int)))],[(2,(.lit [(eB false),(.pv (.list [])),(.pv (.list []))])),(4,(.lit [(eB mul.neg),(.pv (wordsPV mul.num)),(.pv (wordsPV mul.den))])),(200000,(.mats rows_200000 3)),(999999,(.heap (hrows ARat.cells (heap:List (List ARat)))))]⟩)=anyR prg tab fn.ntmps (opsAt (focus [0,2,0,2,0,0,2,0,0,0,0,2,0,0,2,0,0,0,2,0,2,0,0,0,0,0,0,2,1,2,2,2,2,0,0,2,1,2,0,0,2,1,2,0,2,0,2,0,0,0,0,0,2,0,2,0,0,0,0,2,1,2,0] [.code (bodyOf fn)])) (allF (opsAt (focus [0,2,0,2,0,0,2,0,0,0,0,2,0,0,2,0,0,0,2,0,2,0,0,0,0,0,0,2,1,2,2,2,2,0,0,2,1,2,0,0,2,1,2,0,2,0,2,0,0,0,0,0,2,0,2,0,0,0,0,2,1,2,0] [.code (bodyOf fn)])) [0,1,4,7,8,11]) (downs (opsAt (focus [0,2,0,2,0,0,2,0,0,0,0,2,0,0,2,0,0,0,2,0,2,0,0,0,0,0,0,2,1,2,2,2,2,0,0,2,1,2,0,0,2,1,2,0,2,0,2,0,0,0,0,0,2,0,2,0,0,0,0,2,1,2,0] [.code (bodyOf fn)])) [0,1,4,7,8,11]) [.none,.none,(.nat i_7),(.ev (.mrow j l 3)),.none,(.nat c_5),(.mseg ((rV:List ARat).map ARat.cells).flatten [(vB v.neg),(wordsPV v.num),(wordsPV v.den)]),.none,.none,(.nat c_5),(.ev (.mrow j1 l1 3)),.none,(.nat c_5),(.mseg ((rV1:List ARat).map ARat.cells).flatten [(vB v1.neg),(wordsPV v1.num),(wordsPV v1.den)]),(.pv (.tup [div.pv,.nilI])),.none,.none,.none,.none,.none,.none] (flS tab fn.ntmps (opsAt (focus [0,2,0,2,0,0,2,0,0,0,0,2,0,0,2,0,0,0,2,0,2,0,0,0,0,0,0,2,1,2,2,2,2,0,0,2,1,2,0,0,2,1,2,0,2,0,2,0,0,0,0,0,2,0,2,0,0,0,0,2,1,2,0] [.code (bodyOf fn)])) [0,1,4,7,8,11] ⟨[(0,(.row 200000 0 len_200000 1)),(2,(.ptr 2 0)),(4,(.ptr 4 0)),(5,(eI (c_5:Int))),(7,(eI (i_7:Int))),(13,(eI (H.length:Int))),(14,(eI (t_14:Int)))],[(2,(.lit [(eB false),(.pv (.list [])),(.pv (.list []))])),(4,(.lit [(eB mul.neg),(.pv (wordsPV mul.num)),(.pv (wordsPV mul.den))])),(200000,(.mats rows_200000 3)),(999999,(.heap (hrows ARat.cells (heap:List (List ARat)))))]⟩):=by kernel_rfl
theorem l31(len_200000 c_5 i_7:Nat)(H:List (Nat×Nat))(t_14:Nat)(mul:ARat)(rows_200000:List (Nat×Nat))(heap:List (List ARat))(j l:Nat)(rV:List ARat)(v:ARat)(sig:Int)(j1 l1:Nat)(rV1:List ARat)(v1 div:ARat){r:EV}{sout:Sto}{sin:Sto}(hs:sin.all (fun p=>Nat.ble fn.ntmps p.1)=true)(h1:i_7<len_200000)(h2:rows_200000[i_7]? = some (j,l))(h3:c_5<l)(h4:heap[j]? = some rV)(h5:rV[c_5]? = some v)(h6:Contract prg 31 [v.pv] (vI sig))(h7:sig≠0)(h8:c_5<len_200000)(h9:rows_200000[c_5]? = some (j1,l1))(h10:c_5<l1)(h11:heap[j1]? = some rV1)(h12:rV1[c_5]? = some v1)(h13:Contract prg 49 [v.pv,v1.pv] (.tup [div.pv,.nilI]))(hL:Loop4 len_200000 c_5 i_7 c_5 H t_14 mul div rows_200000 heap sin r sout):Loop3 len_200000 c_5 i_7 H t_14 mul rows_200000 heap sin r sout :=
 LX.go mixed tabOk (n:=279) (ns:=[1,2,1,2,3,1,1,2,1,2,3,2,1,2,3,1,1]) (tr:=[.auto,.reg [],.dec true,.reg [.none,.none,(.nat i_7),(.ev (.mrow j l 3)),.none,(.nat c_5),(.mseg ((rV:List ARat).map ARat.cells).flatten [(vB v.neg),(wordsPV v.num),(wordsPV v.den)]),(.pv (vI sig))],.dec false,.keep [0,2,4,5,7,13,14],.any [0,1,4,7,8,11] [.none,.none,(.nat i_7),(.ev (.mrow j l 3)),.none,(.nat c_5),(.mseg ((rV:List ARat).map ARat.cells).flatten [(vB v.neg),(wordsPV v.num),(wordsPV v.den)]),.none,.none,(.nat c_5),(.ev (.mrow j1 l1 3)),.none,(.nat c_5),(.mseg ((rV1:List ARat).map ARat.cells).flatten [(vB v1.neg),(wordsPV v1.num),(wordsPV v1.den)]),(.pv (.tup [div.pv,.nilI])),.none,.none,.none,.none,.none,.none],.reg [],.auto,.reg [],.keep [0,2,4,5,7,8,10,13,14],.ord [2,4,8,200000,999999]]) hs (cj (dltN_t h1) (cj (cj (Eq.refl (((i_7:Nat):Int):Int)) h1) (cj (o_mload 3 h2) (cj (cj (Eq.refl (((c_5:Nat):Int):Int)) h3) (cj (o_mseg sz_ARat h4 h5) (cj h6 (cj (deq_f h7) (cj (cj (Eq.refl (((i_7:Nat):Int):Int)) h1) (cj (o_mload 3 h2) (cj (cj (Eq.refl (((c_5:Nat):Int):Int)) h3) (cj (o_mseg sz_ARat h4 h5) (cj (cj (Eq.refl (((c_5:Nat):Int):Int)) h8) (cj (o_mload 3 h9) (cj (cj (Eq.refl (((c_5:Nat):Int):Int)) h10) (cj (o_mseg sz_ARat h11 h12) (cj h13 (cj (l31_any0 len_200000 c_5 i_7 H t_14 mul rows_200000 heap j l rV v j1 l1 rV1 v1 div) True.intro))))))))))))))))) (by kernel_rfl) hL
theorem l33(len_200000 c_5 i_7:Nat)(H:List (Nat×Nat))(t_14:Nat)(mul:ARat)(rows_200000:List (Nat×Nat))(heap:List (List ARat)){r:EV}{sout:Sto}{sin:Sto}(hs:sin.all (fun p=>Nat.ble fn.ntmps p.1)=true)(h1:len_200000≤i_7)(h2:(t_14+1)<9223372036854775808)(hL:Loop1 len_200000 H (t_14+1) mul rows_200000 heap sin r sout):Loop3 len_200000 c_5 i_7 H t_14 mul rows_200000 heap sin r sout :=
 LX.go mixed tabOk (n:=240) (ns:=[1,1]) (tr:=[.auto,.reg [],.dec false,.reg [(iI (((t_14+1):Nat):Int))],.keep [0,2,4,13,14]]) hs (cj (dltN_f h1) (cj (bs_addN h2) True.intro)) (by kernel_rfl) hL
theorem l40_any0(len_200000 c_5 i_7 k_10:Nat)(H:List (Nat×Nat))(t_14:Nat)(mul div:ARat)(rows_200000:List (Nat×Nat))(heap:List (List ARat))(j l:Nat)(rV:List ARat)(v:ARat)(j1 l1:Nat)(rV1:List ARat)(v1 mul1 sub:ARat):anyL prg tab fn.ntmps (opsAt (focus [0,2,0,2,0,0,2,0,0,0,0,2,0,0,2,0,0,0,2,0,2,0,0,0,0,0,0,2,1,2,2,2,2,0,0,2,1,2,0,0,2,1,2,0,2,0,2,0,0,0,0,0,2,0,2,0,0,0,0,2,1,2,0,2,0,0,2,1,2,0,2,0,0,0,0,0,2,0,2,0,0] [.code (bodyOf fn)])) (allF (opsAt (focus [0,2,0,2,0,0,2,0,0,0,0,2,0,0,2,0,0,0,2,0,2,0,0,0,0,0,0,2,1,2,2,2,2,0,0,2,1,2,0,0,2,1,2,0,2,0,2,0,0,0,0,0,2,0,2,0,0,0,0,2,1,2,0,2,0,0,2,1,2,0,2,0,0,0,0,0,2,0,2,0,0] [.code (bodyOf fn)])) [0,1,4,5,6,9,13,14,17]) (downs (opsAt (focus [0,2,0,2,0,0,2,0,0,0,0,2,0,0,2,0,0,0,2,0,2,0,0,0,0,0,0,2,1,2,2,2,2,0,0,2,1,2,0,0,2,1,2,0,2,0,2,0,0,0,0,0,2,0,2,0,0,0,0,2,1,2,0,2,0,0,2,1,2,0,2,0,0,0,0,0,2,0,2,0,0] [.code (bodyOf fn)])) [0,1,4,5,6,9,13,14,17]) [.none,.none,(.nat i_7),(.ev (.mrow j l 3)),.none,.none,.none,(.nat i_7),(.ev (.mrow j l 3)),.none,(.nat k_10),(.mseg ((rV:List ARat).map ARat.cells).flatten [(vB v.neg),(wordsPV v.num),(wordsPV v.den)]),.none,.none,.none,(.nat c_5),(.ev (.mrow j1 l1 3)),.none,(.nat k_10),(.mseg ((rV1:List ARat).map ARat.cells).flatten [(vB v1.neg),(wordsPV v1.num),(wordsPV v1.den)]),(.pv mul1.pv),(.pv sub.pv),(.nat k_10),(.mset ((rV:List ARat).map ARat.cells).flatten (((rV.set k_10 sub):List ARat).map ARat.cells).flatten (hrows ARat.cells ((heap.set j (rV.set k_10 sub)):List (List ARat))))] (flS tab fn.ntmps (opsAt (focus [0,2,0,2,0,0,2,0,0,0,0,2,0,0,2,0,0,0,2,0,2,0,0,0,0,0,0,2,1,2,2,2,2,0,0,2,1,2,0,0,2,1,2,0,2,0,2,0,0,0,0,0,2,0,2,0,0,0,0,2,1,2,0,2,0,0,2,1,2,0,2,0,0,0,0,0,2,0,2,0,0] [.code (bodyOf fn)])) [0,1,4,5,6,9,13,14,17] ⟨[(0,(.row 200000 0 len_200000 1)),(2,(.ptr 2 0)),(4,(.ptr 4 0)),(5,(eI (c_5:Int))),(7,(eI (i_7:Int))),(8,(.ptr 8 0)),(10,(eI (k_10:Int))),(13,(eI (H.length:Int))),(14,(eI (t_14:Int)))],[(2,(.lit [(eB false),(.pv (.list [])),(.pv (.list []))])),(4,(.lit [(eB mul.neg),(.pv (wordsPV mul.num)),(.pv (wordsPV mul.den))])),(8,(.lit [(eB div.neg),(.pv (wordsPV div.num)),(.pv (wordsPV div.den))])),(200000,(.mats rows_200000 3)),(999999,(.heap (hrows ARat.cells (heap:List (List ARat)))))]⟩)=anyR prg tab fn.ntmps (opsAt (focus [0,2,0,2,0,0,2,0,0,0,0,2,0,0,2,0,0,0,2,0,2,0,0,0,0,0,0,2,1,2,2,2,2,0,0,2,1,2,0,0,2,1,2,0,2,0,2,0,0,0,0,0,2,0,2,0,0,0,0,2,1,2,0,2,0,0,2,1,2,0,2,0,0,0,0,0,2,0,2,0,0] [.code (bodyOf fn)])) (allF (opsAt (focus [0,2,0,2,0,0,2,0,0,0,0,2,0,0,2,0,0,0,2,0,2,0,0,0,0,0,0,2,1,2,2,2,2,0,0,2,1,2,0,0,2,1,2,0,2,0,2,0,0,0,0,0,2,0,2,0,0,0,0,2,1,2,0,2,0,0,2,1,2,0,2,0,0,0,0,0,2,0,2,0,0] [.code (bodyOf fn)])) [0,1,4,5,6,9,13,14,17]) (downs (opsAt (focus [0,2,0,2,0,0,2,0,0,0,0,2,0,0,2,0,0,0,2,0,2,0,0,0,0,0,0,2,1,2,2,2,2,0,0,2,1,2,0,0,2,1,2,0,2,0,2,0,0,0,0,0,2,0,2,0,0,0,0,2,1,2,0,2,0,0,2,1,2,0,2,0,0,0,0,0,2,0,2,0,0] [.code (bodyOf fn)])) [0,1,4,5,6,9,13,14,17]) [.none,.none,(.nat i_7),(.ev (.mrow j l 3)),.none,.none,.none,(.nat i_7),(.ev (.mrow j l 3)),.none,(.nat k_10),(.mseg ((rV:List ARat).map ARat.cells).flatten [(vB v.neg),(wordsPV v.num),(wordsPV v.den)]),.none,.none,.none,(.nat c_5),(.ev (.mrow j1 l1 3)),.none,(.nat k_10),(.mseg ((rV1:List ARat).map ARat.cells).flatten [(vB v1.neg),(wordsPV v1.num),(wordsPV v1.den)]),(.pv mul1.pv),(.pv sub.pv),(.nat k_10),(.mset ((rV:List ARat).map ARat.cells).flatten (((rV.set k_10 sub):List ARat).map ARat.cells).flatten (hrows ARat.cells ((heap.set j (rV.set k_10 sub)):List (List ARat))))] (flS tab fn.ntmps (opsAt (focus [0,2,0,2,0,0,2,0,0,0,0,2,0,0,2,0,0,0,2,0,2,0,0,0,0,0,0,2,1,2,2,2,2,0,0,2,1,2,0,0,2,1,2,0,2,0,2,0,0,0,0,0,2,0,2,0,0,0,0,2,1,2,0,2,0,0,2,1,2,0,2,0,0,0,0,0,2,0,2,0,0] [.code (bodyOf fn)])) [0,1,4,5,6,9,13,14,17] ⟨[(0,(.row 200000 0 len_200000 1)),(2,(.ptr 2 0)),(4,(.ptr 4 0)),(5,(eI (c_5:Int))),(7,(eI (i_7:Int))),(8,(.ptr 8 0)),(10,(eI (k_10:Int))),(13,(eI (H.length:Int))),(14,(eI (t_14:Int)))],[(2,(.lit [(eB false),(.pv (.list [])),(.pv (.list []))])),(4,(.lit [(eB mul.neg),(.pv (wordsPV mul.num)),(.pv (wordsPV mul.den))])),(8,(.lit [(eB div.neg),(.pv (wordsPV div.num)),(.pv (wordsPV div.den))])),(200000,(.mats rows_200000 3)),(999999,(.heap (hrows ARat.cells (heap:List (List ARat)))))]⟩):=by kernel_rfl
theorem l40(len_200000 c_5 i_7 k_10:Nat)(H:List (Nat×Nat))(t_14:Nat)(mul div:ARat)(rows_200000:List (Nat×Nat))(heap:List (List ARat))(j l:Nat)(rV:List ARat)(v:ARat)(j1 l1:Nat)(rV1:List ARat)(v1 mul1 sub:ARat){r:EV}{sout:Sto}{sin:Sto}(hs:sin.all (fun p=>Nat.ble fn.ntmps p.1)=true)(h1:k_10<len_200000)(h2:i_7<len_200000)(h3:rows_200000[i_7]? = some (j,l))(h4:k_10<l)(h5:heap[j]? = some rV)(h6:rV[k_10]? = some v)(h7:c_5<len_200000)(h8:rows_200000[c_5]? = some (j1,l1))(h9:k_10<l1)(h10:heap[j1]? = some rV1)(h11:rV1[k_10]? = some v1)(h12:Contract prg 25 [div.pv,v1.pv] mul1.pv)(h13:Contract prg 34 [v.pv,mul1.pv] sub.pv)(h14:k_10<rV.length)(h15:(k_10+1)<9223372036854775808)(hL:Loop4 len_200000 c_5 i_7 (k_10+1) H t_14 mul div rows_200000 (heap.set j (rV.set k_10 sub)) sin r sout):Loop4 len_200000 c_5 i_7 k_10 H t_14 mul div rows_200000 heap sin r sout :=
 LX.go mixed tabOk (n:=312) (ns:=[1,2,1,2,1,2,3,2,1,2,3,1,1,2,4,1,1]) (tr:=[.auto,.reg [],.dec true,.keep [0,2,4,5,7,8,10,13,14],.any [0,1,4,5,6,9,13,14,17] [.none,.none,(.nat i_7),(.ev (.mrow j l 3)),.none,.none,.none,(.nat i_7),(.ev (.mrow j l 3)),.none,(.nat k_10),(.mseg ((rV:List ARat).map ARat.cells).flatten [(vB v.neg),(wordsPV v.num),(wordsPV v.den)]),.none,.none,.none,(.nat c_5),(.ev (.mrow j1 l1 3)),.none,(.nat k_10),(.mseg ((rV1:List ARat).map ARat.cells).flatten [(vB v1.neg),(wordsPV v1.num),(wordsPV v1.den)]),(.pv mul1.pv),(.pv sub.pv),(.nat k_10),(.mset ((rV:List ARat).map ARat.cells).flatten (((rV.set k_10 sub):List ARat).map ARat.cells).flatten (hrows ARat.cells ((heap.set j (rV.set k_10 sub)):List (List ARat))))],.reg [.none,(iI (((k_10+1):Nat):Int))],.keep [0,2,4,5,7,8,10,13,14]]) hs (cj (dltN_t h1) (cj (cj (Eq.refl (((i_7:Nat):Int):Int)) h2) (cj (o_mload 3 h3) (cj (cj (Eq.refl (((i_7:Nat):Int):Int)) h2) (cj (o_mload 3 h3) (cj (cj (Eq.refl (((k_10:Nat):Int):Int)) h4) (cj (o_mseg sz_ARat h5 h6) (cj (cj (Eq.refl (((c_5:Nat):Int):Int)) h7) (cj (o_mload 3 h8) (cj (cj (Eq.refl (((k_10:Nat):Int):Int)) h9) (cj (o_mseg sz_ARat h10 h11) (cj h12 (cj h13 (cj (cj (Eq.refl (((k_10:Nat):Int):Int)) h4) (cj (o_mstore sz_ARat sub h5 h14) (cj (l40_any0 len_200000 c_5 i_7 k_10 H t_14 mul div rows_200000 heap j l rV v j1 l1 rV1 v1 mul1 sub) (cj (bs_addN h15) True.intro))))))))))))))))) (by kernel_rfl) hL
theorem l41(len_200000 c_5 i_7 k_10:Nat)(H:List (Nat×Nat))(t_14:Nat)(mul div:ARat)(rows_200000:List (Nat×Nat))(heap:List (List ARat)){r:EV}{sout:Sto}{sin:Sto}(hs:sin.all (fun p=>Nat.ble fn.ntmps p.1)=true)(h1:len_200000≤k_10)(h2:(i_7+1)<9223372036854775808)(hL:Loop3 len_200000 c_5 (i_7+1) H t_14 mul rows_200000 heap sin r sout):Loop4 len_200000 c_5 i_7 k_10 H t_14 mul div rows_200000 heap sin r sout :=
 LX.go mixed tabOk (n:=312) (ns:=[1,1]) (tr:=[.auto,.reg [],.dec false,.reg [.none,(iI (((i_7+1):Nat):Int))],.keep [0,2,4,5,7,13,14],.drop [8]]) hs (cj (dltN_f h1) (cj (bs_addN h2) True.intro)) (by kernel_rfl) hL
end resultant_detM
end Go.Proofs.YtboilcfohmmpbaaGreatDoor.Sym.Path

namespace Go.Proofs.YtboilcfohmmpbaaGreatDoor.Sym.Path
open Go
set_option maxRecDepth 20000
set_option linter.unusedVariables false
namespace resultant_sylvesterM
@[reducible] noncomputable def fn:Func:=Tryz.f44
noncomputable def atK1:List Itm:=focus [0,2,0,0,2,1,2,0,2,0,0,2,1,2,0,2,0,0,2,0,0] [.code (bodyOf fn)]
def inv1(deg deg1:Int)(rows_80:List (Nat×Nat))(t_40:Nat)(p q:List ARat)(heap:List (List ARat)):St:=⟨[(6,(eI deg)),(7,(eI deg1)),(8,(.row 80 0 rows_80.length 1)),(38,(.row 38 0 2 2)),(39,(eI 2)),(40,(eI (t_40:Int)))],[(38,(.pure (([(⟨p,deg1⟩:AAnonPRows),(⟨q,deg⟩:AAnonPRows)]:List AAnonPRows).map AAnonPRows.cells).flatten)),(80,(.mats rows_80 3)),(999999,(.heap (hrows ARat.cells (heap:List (List ARat)))))]⟩
@[reducible] noncomputable def Loop1(deg deg1:Int)(rows_80:List (Nat×Nat))(t_40:Nat)(p q:List ARat)(heap:List (List ARat))(sin:Sto)(r:EV)(sout:Sto):Prop:=LX prg fn atK1 (inv1 deg deg1 rows_80 t_40 p q heap) sin r sout
noncomputable def atK2:List Itm:=focus [0,2,0,0,2,1,2,0,2,0,0,2,1,2,0,2,0,0,2,0,0,0,0,2,0,0,2,0,0,0,2,0,2,0,0] [.code (bodyOf fn)]
def inv2(deg deg1:Int)(rows_80:List (Nat×Nat))(t_40:Nat)(v:AAnonPRows)(t_46:Nat)(p q:List ARat)(heap:List (List ARat)):St:=⟨[(6,(eI deg)),(7,(eI deg1)),(8,(.row 80 0 rows_80.length 1)),(10,(.ptr 10 0)),(38,(.row 38 0 2 2)),(39,(eI 2)),(40,(eI (t_40:Int))),(45,(eI v.rows)),(46,(eI (t_46:Int)))],[(10,(.lit [(.pv (polyPV v.p)),(eI v.rows)])),(38,(.pure (([(⟨p,deg1⟩:AAnonPRows),(⟨q,deg⟩:AAnonPRows)]:List AAnonPRows).map AAnonPRows.cells).flatten)),(80,(.mats rows_80 3)),(999999,(.heap (hrows ARat.cells (heap:List (List ARat)))))]⟩
@[reducible] noncomputable def Loop2(deg deg1:Int)(rows_80:List (Nat×Nat))(t_40:Nat)(v:AAnonPRows)(t_46:Nat)(p q:List ARat)(heap:List (List ARat))(sin:Sto)(r:EV)(sout:Sto):Prop:=LX prg fn atK2 (inv2 deg deg1 rows_80 t_40 v t_46 p q heap) sin r sout
noncomputable def atK3:List Itm:=focus [0,2,0,0,2,1,2,0,2,0,0,2,1,2,0,2,0,0,2,0,0,0,0,2,0,0,2,0,0,0,2,0,2,0,0,0,0,2,0,0,2,0,0,0,2,0,2,0,0,2,0,0] [.code (bodyOf fn)]
def inv3(deg deg1:Int)(rows_80:List (Nat×Nat))(i_11 m t_40:Nat)(v:AAnonPRows)(t_46 t_56:Nat)(p q site_52:List ARat)(heap:List (List ARat)):St:=⟨[(6,(eI deg)),(7,(eI deg1)),(8,(.row 80 0 rows_80.length 1)),(10,(.ptr 10 0)),(11,(eI (i_11:Int))),(12,(.row 52 0 m 3)),(38,(.row 38 0 2 2)),(39,(eI 2)),(40,(eI (t_40:Int))),(45,(eI v.rows)),(46,(eI (t_46:Int))),(55,(eI (v.p.length:Int))),(56,(eI (t_56:Int)))],[(10,(.lit [(.pv (polyPV v.p)),(eI v.rows)])),(38,(.pure (([(⟨p,deg1⟩:AAnonPRows),(⟨q,deg⟩:AAnonPRows)]:List AAnonPRows).map AAnonPRows.cells).flatten)),(52,(.pure ((site_52:List ARat).map ARat.cells).flatten)),(80,(.mats rows_80 3)),(999999,(.heap (hrows ARat.cells (heap:List (List ARat)))))]⟩
@[reducible] noncomputable def Loop3(deg deg1:Int)(rows_80:List (Nat×Nat))(i_11 m t_40:Nat)(v:AAnonPRows)(t_46 t_56:Nat)(p q site_52:List ARat)(heap:List (List ARat))(sin:Sto)(r:EV)(sout:Sto):Prop:=LX prg fn atK3 (inv3 deg deg1 rows_80 i_11 m t_40 v t_46 t_56 p q site_52 heap) sin r sout
theorem e3(p q:List ARat)(deg deg1:Int){r:EV}{sout:Sto}(h1:p.length≠0)(h2:q.length≠0)(h3:Contract prg 47 [(polyPV p)] (vI deg))(h4:Contract prg 47 [(polyPV q)] (vI deg1))(h5:InI64 (deg+deg1))(h6:(deg+deg1)≤40)(hL:Loop1 deg deg1 [] 0 p q [] [] r sout):ContractX prg 44 [(.pv (polyPV p)),(.pv (polyPV q))] [] r sout :=
 ContractX.ofL Tryz.func44 (by kernel_rfl) (LX.go mixed tabOk (n:=123) (ns:=[1,1,1,1,1,1,1,1,1,1,1]) (tr:=[.newheap,.reg [],.reg [.none,(iI (p.length:Int)),.none,.none,.none,(iI (q.length:Int)),.none,(.dec false)],.dec false,.reg [.none,(.pv (vI deg)),.none,(.pv (vI deg1))],.reg [.none,.none,(iI (deg+deg1))],.dec false,.reg [.nil],.adoptM 8 80 3,.reg [],.keep [6,7,8,38,39,40]]) rfl (cj (o_len ARat.cells p) (cj (deqN_f h1) (cj (deqN_f h1) (cj (o_len ARat.cells q) (cj (deqN_f h1) (cj (deqN_f h1) (cj (deqN_f h2) (cj h3 (cj h4 (cj (bs_add h5) (cj (dlt_f h6) True.intro))))))))))) (by kernel_rfl) hL)
theorem l10(deg deg1:Int)(rows_80:List (Nat×Nat))(t_40:Nat)(p q:List ARat)(heap:List (List ARat))(v:AAnonPRows){r:EV}{sout:Sto}{sin:Sto}(hs:sin.all (fun p=>Nat.ble fn.ntmps p.1)=true)(h1:t_40<2)(h2:[(⟨p,deg1⟩:AAnonPRows),(⟨q,deg⟩:AAnonPRows)][t_40]? = some v)(hL:Loop2 deg deg1 rows_80 t_40 v 0 p q heap sin r sout):Loop1 deg deg1 rows_80 t_40 p q heap sin r sout :=
 LX.go mixed tabOk (n:=165) (ns:=[1,2,2]) (tr:=[.auto,.reg [],.dec true,.reg [(.nat t_40),(.seg [(polyPV v.p),(vI v.rows)])],.reg [],.keep [6,7,8,10,38,39,40,45,46]]) hs (cj (dltN_t h1) (cj (cj (Eq.refl (((t_40:Nat):Int):Int)) h1) (cj (o_seg sz_AAnonPRows h2) True.intro))) (by kernel_rfl) hL
theorem l11(deg deg1:Int)(rows_80:List (Nat×Nat))(t_40:Nat)(p q:List ARat)(heap:List (List ARat)){sin:Sto}(hs:sin.all (fun p=>Nat.ble fn.ntmps p.1)=true)(hi:sin.all (fun p=>gvB p.1||(Sto.get [(0,(.mats rows_80 3)),(999999,(.heap (hrows ARat.cells (heap:List (List ARat)))))] p.1).isSome)=true)(h1:2≤t_40):Loop1 deg deg1 rows_80 t_40 p q heap sin (.rowT 0 0 rows_80.length 1 [.nilI]) [(0,(.mats rows_80 3)),(999999,(.heap (hrows ARat.cells (heap:List (List ARat)))))] :=
 LX.done2 mixed tabOk (n:=156) (ns:=[1]) (tr:=[.auto,.reg [],.dec false,.reg [],.ren 80 0,.drop [38],.ord [0,999999]]) hs hi (cj (dltN_f h1) True.intro) (by kernel_rfl)
theorem l20(deg deg1:Int)(rows_80:List (Nat×Nat))(t_40:Nat)(v:AAnonPRows)(t_46:Nat)(p q:List ARat)(heap:List (List ARat))(m:Nat){r:EV}{sout:Sto}{sin:Sto}(hs:sin.all (fun p=>Nat.ble fn.ntmps p.1)=true)(h1:(t_46:Int)<v.rows)(h2:InI64 (deg+deg1))(h3:(deg+deg1)=(m:Int))(h4:56*m≤140737488355328)(hL:Loop3 deg deg1 rows_80 t_46 m t_40 v t_46 0 p q (List.replicate m (⟨false,[],[]⟩:ARat)) heap sin r sout):Loop2 deg deg1 rows_80 t_40 v t_46 p q heap sin r sout :=
 LX.go mixed tabOk (n:=216) (ns:=[1,1,5,1]) (tr:=[.auto,.reg [],.dec true,.reg [],.reg [.none,.none,(iI (deg+deg1)),(.app m ((List.replicate m (⟨false,[],[]⟩:ARat):List ARat).map ARat.cells).flatten)],.reg [.none,.none,(iI (v.p.length:Int))],.keep [6,7,8,10,11,12,38,39,40,45,46,55,56],.ord [10,38,52,80,999999]]) hs (cj (dlt_t h1) (cj (bs_add h2) (cj (o_mk ARat.cells (⟨false,[],[]⟩:ARat) 56 m h3 h4 rfl) (cj (o_len ARat.cells v.p) True.intro)))) (by kernel_rfl) hL
theorem l21(deg deg1:Int)(rows_80:List (Nat×Nat))(t_40:Nat)(v:AAnonPRows)(t_46:Nat)(p q:List ARat)(heap:List (List ARat)){r:EV}{sout:Sto}{sin:Sto}(hs:sin.all (fun p=>Nat.ble fn.ntmps p.1)=true)(h1:v.rows≤(t_46:Int))(h2:(t_40+1)<9223372036854775808)(hL:Loop1 deg deg1 rows_80 (t_40+1) p q heap sin r sout):Loop2 deg deg1 rows_80 t_40 v t_46 p q heap sin r sout :=
 LX.go mixed tabOk (n:=198) (ns:=[1,1]) (tr:=[.auto,.reg [],.dec false,.reg [(iI (((t_40+1):Nat):Int))],.keep [6,7,8,38,39,40],.drop [10]]) hs (cj (dlt_f h1) (cj (bs_addN h2) True.intro)) (by kernel_rfl) hL
theorem l30(deg deg1:Int)(rows_80:List (Nat×Nat))(i_11 m t_40:Nat)(v:AAnonPRows)(t_46 t_56:Nat)(p q site_52:List ARat)(heap:List (List ARat))(k:Nat)(v1 add:ARat){r:EV}{sout:Sto}{sin:Sto}(hs:sin.all (fun p=>Nat.ble fn.ntmps p.1)=true)(h1:t_56<v.p.length)(h2:(i_11+t_56)<9223372036854775808)(h3:InI64 ((v.p.length:Int)-1))(h4:InI64 (((v.p.length:Int)-1)-(t_56:Int)))(h5:(((v.p.length:Int)-1)-(t_56:Int))=(k:Int))(h6:v.p[k]? = some v1)(h7:Contract prg 68 [v1.pv,(⟨false,[],[]⟩:ARat).pv] add.pv)(h8:(i_11+t_56)<m)(h9:(i_11+t_56)<site_52.length)(h10:(t_56+1)<9223372036854775808)(hL:Loop3 deg deg1 rows_80 i_11 m t_40 v t_46 (t_56+1) p q (site_52.set (i_11+t_56) add) heap sin r sout):Loop3 deg deg1 rows_80 i_11 m t_40 v t_46 t_56 p q site_52 heap sin r sout :=
 LX.go mixed tabOk (n:=255) (ns:=[1,1,1,1,1,3,1,2,2,1]) (tr:=[.auto,.reg [],.dec true,.reg [],.reg [.none,.none,.none,(iI (((i_11+t_56):Nat):Int)),.none,.none,.none,.none,(iI (v.p.length:Int)),(iI ((v.p.length:Int)-1)),.none,(iI (((v.p.length:Int)-1)-(t_56:Int))),(.row k (ARat.cells v1)),.none,.none,(.pv add.pv),(.nat (i_11+t_56)),(.cells (.pure (((site_52.set (i_11+t_56) add):List ARat).map ARat.cells).flatten))],.reg [(iI (((t_56+1):Nat):Int))],.keep [6,7,8,10,11,12,38,39,40,45,46,55,56]]) hs (cj (dltN_t h1) (cj (bs_addN h2) (cj (o_len ARat.cells v.p) (cj (bs_sub h3) (cj (bs_sub h4) (cj (o_at ARat.cells h5 h6) (cj h7 (cj (cj (Eq.refl ((((i_11+t_56):Nat):Int):Int)) h8) (cj (o_set sz_ARat (site_52:List ARat) add h9) (cj (bs_addN h10) True.intro)))))))))) (by kernel_rfl) hL
theorem l31(deg deg1:Int)(rows_80:List (Nat×Nat))(i_11 m t_40:Nat)(v:AAnonPRows)(t_46 t_56:Nat)(p q site_52:List ARat)(heap:List (List ARat)){r:EV}{sout:Sto}{sin:Sto}(hs:sin.all (fun p=>Nat.ble fn.ntmps p.1)=true)(h1:v.p.length≤t_56)(h2:(rows_80++[(heap.length,m)]).length*24≤140737488355328)(h3:(t_46+1)<9223372036854775808)(hL:Loop2 deg deg1 (rows_80++[(heap.length,m)]) t_40 v (t_46+1) p q (heap++[site_52]) sin r sout):Loop3 deg deg1 rows_80 i_11 m t_40 v t_46 t_56 p q site_52 heap sin r sout :=
 LX.go mixed tabOk (n:=252) (ns:=[1,2,5,1]) (tr:=[.auto,.reg [],.dec false,.rel 12 (heap:List (List ARat)).length (hrows ARat.cells ((heap++[site_52]):List (List ARat))),.reg [.none,.none,.mbuild,(.mapp (rows_80++[(heap.length,m)]).length (rows_80++[(heap.length,m)]))],.reg [(iI (((t_46+1):Nat):Int))],.keep [6,7,8,10,38,39,40,45,46],.drop [79],.ord [10,38,80,999999]]) hs (cj (dltN_f h1) (cj (o_rel ARat.cells (heap:List (List ARat)) (site_52:List ARat)) (cj (o_mapp rows_80 heap.length m 24 h2 rfl) (cj (bs_addN h3) True.intro)))) (by kernel_rfl) hL
end resultant_sylvesterM
namespace resultant_SylvesterM
theorem e0(p q:List ARat)(H:List (Nat×Nat))(X:List (List ARat))(syl:Option Int)(h1:Contract prg 43 [(lpv (lcell ARat.cells) [p,q])] .nilI)(h2:ContractX prg 44 [.pv (polyPV p),.pv (polyPV q)] [] (.rowT 0 0 H.length 1 [(errPV syl)]) [(0,(.mats H 3)),(999999,(.heap (hrows ARat.cells (X:List (List ARat)))))]):ContractX prg 12 [(.pv (polyPV p)),(.pv (polyPV q))] [] (.rowT 0 0 H.length 1 [(errPV syl)]) [(0,(.mats H 3)),(999999,(.heap (hrows ARat.cells (X:List (List ARat)))))] :=
 ContractX.ofL Tryz.func12 (by kernel_rfl) (LX.done mixed tabOk (n:=93) (ns:=[3,1,1]) (tr:=[.reg [],.reg [.none,.none,(.slc 0 0 (([p,q]:List (List ARat)).map (lcell ARat.cells))),(.pv .nilI)],.reg [],.auto,.reg [.none,.none,(.callN (.rowT 0 0 H.length 1 [(errPV syl)]) H 3 (hrows ARat.cells X))],.ren 16 0,.ord [0,999999]]) rfl (cj (o_bs (sz_l ARat.cells) ([p,q]:List (List ARat))) (cj h1 (cj h2 True.intro))) (by kernel_rfl))
end resultant_SylvesterM
namespace resultant_Resultant
theorem e0(p q:List ARat)(H:List (Nat×Nat))(X:List (List ARat))(det:ARat)(det1:Option Int)(h1:ContractX prg 12 [.pv (polyPV p),.pv (polyPV q)] [] (.rowT 0 0 H.length 1 [.nilI]) [(0,(.mats H 3)),(999999,(.heap (hrows ARat.cells (X:List (List ARat)))))])(h2:ContractX prg 45 [.row 200000 0 H.length 1] [(200000,(.mats H 3)),(999999,(.heap (hrows ARat.cells (X:List (List ARat)))))] (.pv (.tup [det.pv,(errPV det1)])) []):Contract prg 13 [(polyPV p),(polyPV q)] (.tup [det.pv,(errPV det1)]) :=
 Contract.ofL Tryz.func13 (by kernel_rfl) (L.done mixed tabOk (n:=93) (ns:=[1,1]) (tr:=[.reg [],.reg [.none,.none,(.callN (.rowT 0 0 H.length 1 [.nilI]) H 3 (hrows ARat.cells X))],.reg [],.auto,.reg [.none,(.callG 11 (.tup [det.pv,(errPV det1)]))]]) (cj h1 (cj h2 True.intro)) (by kernel_rfl))
end resultant_Resultant
namespace resultant_Discriminant
theorem e2(p:List ARat)(deg:Int)(der:List ARat)(res:ARat)(k:Nat)(neg:ARat)(k1:Nat)(v div:ARat)(div1:Option Int)(h1:Contract prg 46 [(polyPV p)] .nilI)(h2:Contract prg 47 [(polyPV p)] (vI deg))(h3:1≤deg)(h4:deg≤20)(h5:Contract prg 48 [(polyPV p)] (.tup [(polyPV der),.nilI]))(h6:Contract prg 13 [(polyPV p),(polyPV der)] (.tup [res.pv,.nilI]))(h7:InI64 (deg-1))(h8:InI64 (deg*(deg-1)))(h9:(deg*(deg-1))=(k:Int))(h10:k<9223372036854775808)(h11:((k/2)%2)=1)(h12:Contract prg 23 [res.pv] neg.pv)(h13:deg=(k1:Int))(h14:p[k1]? = some v)(h15:Contract prg 49 [neg.pv,v.pv] (.tup [div.pv,(errPV div1)])):Contract prg 14 [(polyPV p)] (.tup [div.pv,(errPV div1)]) :=
 Contract.ofL Tryz.func14 (by kernel_rfl) (L.done mixed tabOk (n:=186) (ns:=[1,1,1,1,1,1,1,1,1,1,1,1,3,1]) (tr:=[.reg [],.reg [.none,(.pv .nilI)],.reg [],.auto,.reg [.none,(.pv (vI deg))],.reg [],.dec false,.reg [],.dec false,.reg [.none,(.pv (.tup [(polyPV der),.nilI]))],.reg [],.auto,.reg [.none,.none,(.pv (.tup [res.pv,.nilI]))],.reg [],.auto,.reg [.none,.none,(iI (deg-1)),(iI (deg*(deg-1))),(iI (((k/2):Nat):Int)),(iI ((((k/2)%2):Nat):Int))],.dec true,.reg [.none,(.pv neg.pv)],dr 8 2 [.none,.none,.none,(.row k1 (ARat.cells v)),.none,(.pv (.tup [div.pv,(errPV div1)]))]]) (cj h1 (cj h2 (cj (dlt_f h3) (cj (dlt_f h4) (cj h5 (cj h6 (cj (bs_sub h7) (cj (bs_mul h8) (cj (o_ti h9 (bs_quoN (y:=2) (by decide) h10)) (cj (bs_remN (x:=(k/2)) (y:=2) (by decide)) (cj (deqN_t h11) (cj h12 (cj (o_at ARat.cells h13 h14) (cj h15 True.intro)))))))))))))) (by kernel_rfl))
theorem e3(p:List ARat)(deg:Int)(der:List ARat)(res:ARat)(k k1:Nat)(v div:ARat)(div1:Option Int)(h1:Contract prg 46 [(polyPV p)] .nilI)(h2:Contract prg 47 [(polyPV p)] (vI deg))(h3:1≤deg)(h4:deg≤20)(h5:Contract prg 48 [(polyPV p)] (.tup [(polyPV der),.nilI]))(h6:Contract prg 13 [(polyPV p),(polyPV der)] (.tup [res.pv,.nilI]))(h7:InI64 (deg-1))(h8:InI64 (deg*(deg-1)))(h9:(deg*(deg-1))=(k:Int))(h10:k<9223372036854775808)(h11:((k/2)%2)≠1)(h12:deg=(k1:Int))(h13:p[k1]? = some v)(h14:Contract prg 49 [res.pv,v.pv] (.tup [div.pv,(errPV div1)])):Contract prg 14 [(polyPV p)] (.tup [div.pv,(errPV div1)]) :=
 Contract.ofL Tryz.func14 (by kernel_rfl) (L.done mixed tabOk (n:=186) (ns:=[1,1,1,1,1,1,1,1,1,1,1,3,1]) (tr:=[.reg [],.reg [.none,(.pv .nilI)],.reg [],.auto,.reg [.none,(.pv (vI deg))],.reg [],.dec false,.reg [],.dec false,.reg [.none,(.pv (.tup [(polyPV der),.nilI]))],.reg [],.auto,.reg [.none,.none,(.pv (.tup [res.pv,.nilI]))],.reg [],.auto,.reg [.none,.none,(iI (deg-1)),(iI (deg*(deg-1))),(iI (((k/2):Nat):Int)),(iI ((((k/2)%2):Nat):Int))],.dec false,dr 8 2 [.none,.none,.none,(.row k1 (ARat.cells v)),.none,(.pv (.tup [div.pv,(errPV div1)]))]]) (cj h1 (cj h2 (cj (dlt_f h3) (cj (dlt_f h4) (cj h5 (cj h6 (cj (bs_sub h7) (cj (bs_mul h8) (cj (o_ti h9 (bs_quoN (y:=2) (by decide) h10)) (cj (bs_remN (x:=(k/2)) (y:=2) (by decide)) (cj (deqN_f h11) (cj (o_at ARat.cells h12 h13) (cj h14 True.intro))))))))))))) (by kernel_rfl))
end resultant_Discriminant
end Go.Proofs.YtboilcfohmmpbaaGreatDoor.Sym.Path
namespace Go.Proofs.YtboilcfohmmpbaaGreatDoor.Sym
open Go Path CInt Dt
set_option linter.unusedVariables false
abbrev rowR(n:Nat)(g:Nat→Rat):List ARat:=(tabL n g).map mkR
theorem rowR_get{n i:Nat}(g:Nat→Rat)(h:i<n):(rowR n g)[i]? = some (mkR (g i)):=by unfold rowR;rw[List.getElem?_map,tabL_get g h];rfl
theorem rowR_len(n:Nat)(g:Nat→Rat):(rowR n g).length=n:=by unfold rowR;rw[List.length_map,tabL_len]
theorem rowR_set{n i:Nat}(g:Nat→Rat)(v:Rat)(h:i<n):(rowR n g).set i (mkR v)=rowR n (fun j=>if j=i then v else g j):=by
 unfold rowR;rw[←List.map_set,tabL_set g v h]
theorem rowR_congr{n:Nat}{f g:Nat→Rat}(h:∀i,i<n→f i=g i):rowR n f=rowR n g:=by unfold rowR;rw[tabL_congr h]
structure MatR (n B:Nat) (hs:List (Nat×Nat)) (X:List (List ARat)) (M:Mx):Prop where
 len:hs.length=n
 row:∀i,i<n→∃j,hs[i]? = some (j,n)∧X[j]? = some (rowR n (M i))
 inj:∀i k j a b,i<n→k<n→hs[i]? = some (j,a)→hs[k]? = some (j,b)→i=k
 ht:∀i k,i<n→k<n→Sym.ht (M i k)≤B
theorem MatR.congr{n B C:Nat}{hs:List (Nat×Nat)}{X:List (List ARat)}{M N:Mx}(h:MatR n B hs X M)(he:∀i k,i<n→k<n→M i k=N i k)(hB:B≤C):MatR n C hs X N :=
 ⟨h.len,fun i hi=>by
  obtain⟨j,h1,h2⟩:=h.row i hi
  exact⟨j,h1,by rw[h2,rowR_congr (fun k hk=>he i k hi hk)]⟩,h.inj,fun i k hi hk=>by rw[←he i k hi hk];exact Nat.le_trans (h.ht i k hi hk) hB⟩
theorem MatR.put{n B:Nat}{hs:List (Nat×Nat)}{X:List (List ARat)}{M:Mx}(h:MatR n B hs X M){i k j:Nat}(hi:i<n)(hk:k<n)(hj:hs[i]? = some (j,n))(hX:X[j]? = some (rowR n (M i))){v:Rat}(hv:Sym.ht v≤B) :
  MatR n B hs (X.set j ((rowR n (M i)).set k (mkR v))) (fun a b=>if a=i∧b=k then v else M a b):=by
 refine⟨h.len,fun a ha => ?_,h.inj,fun a b ha hb => ?_⟩
 ·obtain⟨j',h1,h2⟩:=h.row a ha
  refine⟨j',h1,?_⟩
  by_cases hai:a=i
  ·subst hai
   rw[hj] at h1;injection h1 with h1;injection h1 with h1 _;subst h1
   rw[List.getElem?_set]
   have:=(List.getElem?_eq_some_iff.1 hX).1
   simp only[if_true,this,if_true]
   rw[rowR_set (M a) v hk]
   congr 1
   exact rowR_congr (fun b _=>by by_cases hb:b=k<;>simp[hb])
  ·have hne:j≠j':=fun e=>hai (h.inj a i j n n ha hi (e ▸ h1) hj)
   rw[List.getElem?_set_ne hne,h2]
   congr 1
   exact rowR_congr (fun b _=>by rw[if_neg (fun e=>hai e.1)])
 ·show Sym.ht (if a=i∧b=k then v else M a b)≤B
  split
  ·exact hv
  ·exact h.ht a b ha hb
theorem MatR.swap{n B:Nat}{hs:List (Nat×Nat)}{X:List (List ARat)}{M:Mx}(h:MatR n B hs X M){a c j j1:Nat}(ha:a<n)(hc:c<n)(hac:a≠c)(h1:hs[a]? = some (j,n))(h2:hs[c]? = some (j1,n)) :
  MatR n B ((hs.set a (j1,n)).set c (j,n)) X (sw a c M):=by
 have hl:=h.len
 have get:∀i,((hs.set a (j1,n)).set c (j,n))[i]? = hs[if i=a then c else if i=c then a else i]? := fun i=>by
  rw[List.getElem?_set,List.getElem?_set]
  by_cases h3:i=c
  ·subst h3
   rw[if_pos rfl,if_pos (by rw[List.length_set,hl];exact hc),if_neg (fun e=>hac e.symm),if_pos rfl,h1]
  ·rw[if_neg (fun e=>h3 e.symm)]
   by_cases h4:i=a
   ·subst h4
    rw[if_pos rfl,if_pos (by rw[hl];exact ha),if_pos rfl,h2]
   ·rw[if_neg (fun e=>h4 e.symm),if_neg h4,if_neg h3]
 have lt:∀i,i<n→(if i=a then c else if i=c then a else i)<n:=fun i hi=>by
  by_cases h3:i=a
  ·rw[if_pos h3];exact hc
  ·rw[if_neg h3]
   by_cases h4:i=c
   ·rw[if_pos h4];exact ha
   ·rw[if_neg h4];exact hi
 refine⟨by simp[hl],fun i hi => ?_,fun i k j a' b hi hk e1 e2 => ?_,fun i k hi hk=>h.ht _ _ (lt i hi) hk⟩
 ·obtain⟨j',q1,q2⟩:=h.row _ (lt i hi)
  exact⟨j',by rw[get];exact q1,q2⟩
 ·rw[get] at e1 e2
  have:=h.inj _ _ _ _ _ (lt i hi) (lt k hk) e1 e2
  by_cases i1:i=a
  ·rw[if_pos i1] at this
   by_cases k1:k=a
   ·rw[i1,k1]
   ·rw[if_neg k1] at this
    by_cases k2:k=c
    ·rw[if_pos k2] at this;exact absurd this.symm hac
    ·rw[if_neg k2] at this;exact absurd this.symm k2
  ·rw[if_neg i1] at this
   by_cases i2:i=c
   ·rw[if_pos i2] at this
    by_cases k1:k=a
    ·rw[if_pos k1] at this;exact absurd this hac
    ·rw[if_neg k1] at this
     by_cases k2:k=c
     ·rw[i2,k2]
     ·rw[if_neg k2] at this;exact absurd this.symm k1
   ·rw[if_neg i2] at this
    by_cases k1:k=a
    ·rw[if_pos k1] at this;exact absurd this i2
    ·rw[if_neg k1] at this
     by_cases k2:k=c
     ·rw[if_pos k2] at this;exact absurd this i1
     ·rw[if_neg k2] at this;exact this
theorem ht_step{x y f:Rat}{B:Nat}(hB:1≤B)(hx:ht x≤B)(hy:ht y≤B)(hf:ht f≤2*B):ht (f*y)≤3*B∧ht (x-f*y)≤5*B:=by
 have h1:=ht_mul f y
 have h2:=ht_sub x (f*y)
 omega
namespace CDtP
section
variable {sin:Sto}
theorem k_loop(hs:sin.all (fun p=>Nat.ble resultant_detM.fn.ntmps p.1)=true){n c i B:Nat}{f:Rat}{H rows:List (Nat×Nat)}{t:Nat}{mul:ARat}{r:EV}{sout:Sto}(hn:n≤1000)(hc:c<n)(hi:i<n)(hci:c≠i)(hB:1≤B)(hB5:5*B≤68719476736)(hf:ht f≤2*B) :
  ∀(d k:Nat) (heap:List (List ARat)) (N:Mx),k+d=n→MatR n (5*B) rows heap N→(∀b,b<n→ht (N c b)≤B)→(∀b,k≤b→b<n→ht (N i b)≤B) →
   (∀heap' N',MatR n (5*B) rows heap' N'→(∀a b,b<n→N' a b=if a=i∧k≤b then N a b-f*N c b else N a b)→resultant_detM.Loop3 n c (i+1) H t mul rows heap' sin r sout) →
   resultant_detM.Loop4 n c i k H t mul (mkR f) rows heap sin r sout
 |0,k,heap,N,hk,hM,_,_,hend=>by
  have:n=k:=by omega
  subst this
  exact resultant_detM.l41 n c i n H t mul (mkR f) rows heap hs (Nat.le_refl _) (by omega) (hend heap N hM (fun a b hb=>by rw[if_neg (by omega)]))
 |d+1,k,heap,N,hk,hM,hrc,hri,hend=>by
  have hkn:k<n:=by omega
  obtain⟨j,h1,h2⟩:=hM.row i hi
  obtain⟨j1,h3,h4⟩:=hM.row c hc
  obtain⟨b1,b2⟩:=ht_step hB (hri k (Nat.le_refl k) hkn) (hrc k hkn) hf
  refine resultant_detM.l40 n c i k H t mul (mkR f) rows heap j n _ _ j1 n _ _ _ _ hs hkn hi h1 hkn h2 (rowR_get (N i) hkn) hc h3 hkn h4 (rowR_get (N c) hkn) (QF.Mul f (N c k) (by omega) (by have:=hrc k hkn;omega)) (QF.Sub (N i k) (f*N c k) (by have:=hri k (Nat.le_refl k) hkn;omega) (by omega)) (by rw[rowR_len];exact hkn) (by omega) ?_
  refine k_loop hs hn hc hi hci hB hB5 hf d (k+1) _ _ (by omega) (hM.put hi hkn h1 h2 b2) (fun b hb => ?_) (fun b hb hbn => ?_) (fun heap' N' hM' hN' => ?_)
  ·show ht (if c=i∧b=k then N i k-f*N c k else N c b)≤B
   rw[if_neg (fun e=>hci e.1)];exact hrc b hb
  ·show ht (if i=i∧b=k then N i k-f*N c k else N i b)≤B
   rw[if_neg (by omega)];exact hri b (by omega) hbn
  ·refine hend heap' N' hM' (fun a b hb => ?_)
   rw[hN' a b hb]
   show(if a=i∧k+1≤b then (if a=i∧b=k then N i k-f*N c k else N a b)-f*(if c=i∧b=k then N i k-f*N c k else N c b) else (if a=i∧b=k then N i k-f*N c k else N a b))=_
   rw[if_neg (show ¬(c=i∧b=k) from fun e=>hci e.1)]
   by_cases hai:a=i
   ·subst hai
    by_cases h5:k+1≤b
    ·rw[if_pos ⟨rfl,h5⟩,if_neg (by omega),if_pos ⟨rfl,by omega⟩]
    ·rw[if_neg (by omega)]
     by_cases h6:b=k
     ·subst h6;rw[if_pos ⟨rfl,rfl⟩,if_pos ⟨rfl,Nat.le_refl _⟩]
     ·rw[if_neg (by omega),if_neg (by omega)]
   ·rw[if_neg (fun e=>hai e.1),if_neg (fun e=>hai e.1),if_neg (fun e=>hai e.1)]
theorem i_loop(hs:sin.all (fun p=>Nat.ble resultant_detM.fn.ntmps p.1)=true){n c B:Nat}{M:Mx}{H rows:List (Nat×Nat)}{t:Nat}{mul:ARat}{r:EV}{sout:Sto}(hn:n≤1000)(ht':t≤1000)(hc:c<n)(hB:1≤B)(hB5:5*B≤68719476736)(hp:M c c≠0)(hMB:∀a b,a<n→b<n→ht (M a b)≤B)(hlow:∀b,b<c→M c b=0)
  (hend:∀heap',MatR n (5*B) rows heap' (E c M)→resultant_detM.Loop1 n H (t+1) mul rows heap' sin r sout) :
  ∀(d i:Nat) (heap:List (List ARat)) (N:Mx),i+d=n→c<i→MatR n (5*B) rows heap N→(∀a b,b<n→N a b=if c<a∧a<i∧c≤b then M a b-M a c/M c c*M c b else M a b)→resultant_detM.Loop3 n c i H t mul rows heap sin r sout
 |0,i,heap,N,hi,hci,hM,hN=>by
  have:n=i:=by omega
  subst this
  refine resultant_detM.l33 _ c _ H t mul rows heap hs (Nat.le_refl _) (by omega) (hend heap (hM.congr (fun a b ha hb => ?_) (Nat.le_refl _)))
  rw[hN a b hb]
  unfold E
  by_cases h1:c<a
  ·rw[if_pos h1]
   by_cases h2:c≤b
   ·rw[if_pos ⟨h1,ha,h2⟩]
   ·rw[if_neg (by omega),hlow b (by omega)];grind
  ·rw[if_neg h1,if_neg (fun e=>h1 e.1)]
 |d+1,i,heap,N,hi,hci,hM,hN=>by
  have hin:i<n:=by omega
  obtain⟨j,h1,h2⟩:=hM.row i hin
  obtain⟨j1,h3,h4⟩:=hM.row c hc
  have hNi:∀b,b<n→N i b=M i b:=fun b hb=>by rw[hN i b hb,if_neg (by omega)]
  have hNc:∀b,b<n→N c b=M c b:=fun b hb=>by rw[hN c b hb,if_neg (by omega)]
  have e1:=rowR_get (N i) hc
  have e2:=rowR_get (N c) hc
  rw[hNi c hc] at e1
  rw[hNc c hc] at e2
  have b1:=hMB i c hin hc
  have b2:=hMB c c hc hc
  have hdiv:=ht_div (M i c) (M c c)
  by_cases hz:M i c=0
  ·refine resultant_detM.l30 n c i H t mul rows heap j n _ _ _ hs hin h1 hc h2 e1 (QF.Sign (M i c) (by omega)) (cmpR_eq.2 hz) (by omega) ?_
   refine i_loop hs hn ht' hc hB hB5 hp hMB hlow hend d (i+1) heap N (by omega) (by omega) hM (fun a b hb => ?_)
   rw[hN a b hb]
   by_cases ha:a=i
   ·subst ha
    rw[if_neg (by omega)]
    split
    ·rw[hz];grind
    ·rfl
   ·by_cases h6:c<a∧a<i∧c≤b
    ·rw[if_pos h6,if_pos ⟨h6.1,by omega,h6.2.2⟩]
    ·rw[if_neg h6,if_neg (fun e=>h6 ⟨e.1,by omega,e.2.2⟩)]
  have hsg:cmpR (M i c) 0≠0:=fun e=>hz (cmpR_eq.1 e)
  refine resultant_detM.l31 n c i H t mul rows heap j n _ _ _ j1 n _ _ (mkR (M i c/M c c)) hs hin h1 hc h2 e1 (QF.Sign (M i c) (by omega)) hsg hc h3 hc h4 e2 (QF.Div (M i c) (M c c) (by omega) (by omega) hp) ?_
  refine k_loop hs hn hc hin (by omega) hB hB5 (by omega) (n-c) c heap N (by omega) hM (fun b hb=>by rw[hNc b hb];exact hMB c b hc hb) (fun b _ hb=>by rw[hNi b hb];exact hMB i b hin hb) (fun heap' N' hM' hN' => ?_)
  refine i_loop hs hn ht' hc hB hB5 hp hMB hlow hend d (i+1) heap' N' (by omega) (by omega) hM' (fun a b hb => ?_)
  rw[hN' a b hb]
  by_cases ha:a=i
  ·subst ha
   by_cases h5:c≤b
   ·rw[if_pos ⟨rfl,h5⟩,if_pos ⟨hci,by omega,h5⟩,hNi b hb,hNc b hb]
   ·rw[if_neg (fun e=>h5 e.2),if_neg (fun e=>h5 e.2.2),hNi b hb]
  ·rw[if_neg (fun e=>ha e.1),hN a b hb]
   by_cases h6:c<a∧a<i∧c≤b
   ·rw[if_pos h6,if_pos ⟨h6.1,by omega,h6.2.2⟩]
   ·rw[if_neg h6,if_neg (fun e=>h6 ⟨e.1,by omega,e.2.2⟩)]
theorem c_loop (hs : sin.all (fun p => Nat.ble resultant_detM.fn.ntmps p.1) = true) (hg : sin.all (fun p => gvB p.1) = true) {n B0 : Nat} {H : List (Nat × Nat)} (hn : n ≤ 1000) (hB0 : 1 ≤ B0) (hB : 5 ^ (n + 1) * B0 ≤ 68719476736) (hH : H.length = n) :
    ∀ (f c : Nat) (out : Rat) (rows : List (Nat × Nat)) (heap : List (List ARat)) (M : Mx), c + f = n → (∀ i j, i < n → j < c → j < i → M i j = 0) → MatR n (5 ^ c * B0) rows heap M → ht out ≤ 5 ^ c * B0 → resultant_detM.Loop1 n H c (mkR out) rows heap sin (.pv (.tup [(mkR (detG n f c out M)).pv, .nilI])) []
  | 0, c, out, rows, heap, M, hc, _, _, _ => by
    rw [detG]
    exact resultant_detM.l11 n H c (mkR out) rows heap hs hg (by omega)
  | f + 1, c, out, rows, heap, M, hc, hlow, hM, hout => by
    have hcn : c < n := by omega
    have hpow : 5 ^ (c + 1) * B0 = 5 * (5 ^ c * B0) := by rw [Nat.pow_succ, Nat.mul_comm (5 ^ c) 5, Nat.mul_assoc]
    have hp1 : 1 ≤ 5 ^ c * B0 := Nat.mul_pos (Nat.pow_pos (by omega)) hB0
    have hle : 5 ^ (c + 1) * B0 ≤ 5 ^ (n + 1) * B0 := Nat.mul_le_mul_right _ (Nat.pow_le_pow_right (by omega) (by omega))
    generalize hBc : 5 ^ c * B0 = B at *
    obtain ⟨p1, p2, p3, p4⟩ := piv_spec M c (n - c) c
    have step : ∀ (o : Rat) (rows' : List (Nat × Nat)) (N : Mx), ht o ≤ B → N c c ≠ 0 → MatR n B rows' heap N → (∀ i j, i < n → j < c → j < i → N i j = 0) → resultant_detM.Loop3 n c (c + 1) H c (mkR (o * N c c)) rows' heap sin (.pv (.tup [(mkR (detG n f (c + 1) (o * N c c) (E c N))).pv, .nilI])) [] := by
      intro o rows' N ho hN hMN hNl
      refine i_loop hs hn (by omega) hcn hp1 (by omega) hN hMN.ht (fun b hb => hNl c b hcn hb hb) (fun heap' hM' => ?_) (n - (c + 1)) (c + 1) heap N (by omega) (by omega) (hMN.congr (fun _ _ _ _ => rfl) (by omega)) (fun a b hb => by rw [if_neg (by omega)])
      exact c_loop hs hg hn hB0 hB hH f (c + 1) (o * N c c) rows' heap' (E c N) (by omega) (E_low hNl hN hcn) (by rw [hpow]; exact hM') (by
        have h1 := ht_mul o (N c c)
        have h2 := hMN.ht c c hcn hcn
        rw [hpow]; omega)
    refine resultant_detM.l10 n H c (mkR out) rows heap hs (by omega) ?_
    generalize hP : piv M c (n - c) c = p at *
    have fin : resultant_detM.Loop2 n c p H c (mkR out) rows heap sin (.pv (.tup [(mkR (detG n (f + 1) c out M)).pv, .nilI])) [] := by
      unfold detG
      rw [hP]
      by_cases hpn : p = n
      · rw [if_pos hpn]
        exact resultant_detM.l24 n c p H c (mkR out) rows heap hs hg (by omega) hpn
      · rw [if_neg hpn]
        have hpl : p < n := by omega
        have hne : M p c ≠ 0 := p3 (by omega)
        obtain ⟨j, h1, h2⟩ := hM.row p hpl
        have hsg : cmpR (M p c) 0 ≠ 0 := fun e => hne (cmpR_eq.1 e)
        have bp := hM.ht p c hpl hcn
        by_cases hpc : p = c
        · rw [if_pos hpc]
          subst hpc
          refine resultant_detM.l23 n p p H p (mkR out) rows heap j n _ _ _ j n _ _ _ hs hpl h1 hcn h2 (rowR_get (M p) hcn) (QF.Sign (M p p) (by omega)) hsg (by omega) rfl hcn h1 hcn h2 (rowR_get (M p) hcn) (QF.Mul out (M p p) (by omega) (by omega)) (by omega) ?_
          exact step out rows M hout hne hM hlow
        · rw [if_neg hpc]
          obtain ⟨j1, h3, h4⟩ := hM.row c hcn
          have hsw := hM.swap hpl hcn hpc h1 h3
          obtain ⟨j2, h5, h6⟩ := hsw.row c hcn
          have hb2 := hsw.ht c c hcn hcn
          have hno : ht (-out) ≤ B := by rw [ht_neg]; exact hout
          refine resultant_detM.l22 n c p H c (mkR out) rows heap j n _ _ _ j1 n _ j2 n _ _ _ hs hpl h1 hcn h2 (rowR_get (M p) hcn) (QF.Sign (M p c) (by omega)) hsg (by omega) hpc hcn h3 (by rw [hM.len]; exact hpl) (by rw [List.length_set, hM.len]; exact hcn) (QF.Neg out (by omega)) h5 hcn h6 (rowR_get (sw p c M c) hcn) (QF.Mul (-out) (sw p c M c c) (by omega) (by omega)) (by omega) ?_
          exact step (-out) _ (sw p c M) hno (by unfold sw; rw [if_neg (fun e => hpc e.symm), if_pos rfl]; exact hne) hsw (fun i j hi hj hji => by
            unfold sw
            split
            · exact hlow c j hcn hj (by omega)
            · split
              · exact hlow p j hpl hj (by omega)
              · exact hlow i j hi hj hji)
    have search : ∀ d a, a + d = p → c ≤ a → resultant_detM.Loop2 n c a H c (mkR out) rows heap sin (.pv (.tup [(mkR (detG n (f + 1) c out M)).pv, .nilI])) [] := by
      intro d
      induction d with
      | zero => intro a ha _; have : a = p := by omega
                subst this; exact fin
      | succ d ih =>
        intro a ha hca
        have hz := p4 a hca (by omega)
        obtain ⟨j, h1, h2⟩ := hM.row a (by omega)
        have := hM.ht a c (by omega) hcn
        exact resultant_detM.l20 n c a H c (mkR out) rows heap j n _ _ _ hs (by omega) h1 hcn h2 (rowR_get (M a) hcn) (QF.Sign (M a c) (by omega)) (cmpR_eq.2 hz) (by omega) (ih (a + 1) (by omega) (by omega))
    exact search (p - c) c (by omega) (Nat.le_refl c)
end
theorem det{n B0:Nat}{H:List (Nat×Nat)}{X:List (List ARat)}{M:Mx}(hn:n≤1000)(hB0:1≤B0)(hB:5^(n+1)*B0≤68719476736)(hM:MatR n B0 H X M) :
  ContractX prg 45 [.row 200000 0 H.length 1] [(200000,.mats H 3),(999999,.heap (hrows ARat.cells X))] (.pv (.tup [(mkR (detF n M)).pv,.nilI])) []:=by
 refine resultant_detM.e0 H X (mkR 1) (CFr.Of 1 ⟨by decide,by decide⟩) ?_
 rw[hM.len]
 exact c_loop (sin:=[(200000,.mats H 3),(999999,.heap (hrows ARat.cells X))]) (by kernel_rfl) (by kernel_rfl) hn hB0 hB hM.len n 0 1 H X M (by omega) (fun i j _ h=>by omega) (hM.congr (fun _ _ _ _=>rfl) (by simp)) (by rw[show ht 1=1 by decide];omega)
end CDtP
end Go.Proofs.YtboilcfohmmpbaaGreatDoor.Sym
