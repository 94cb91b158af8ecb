/- The statement LawSmooths is proved: smoothness of lesser numbers, of the derivative and of the moved law; no condition. -/
import Derived.Test.YtegpfcmnjhmhjaaGreatM0
import Derived.Test.YtegpfcmnjhmhjaaGreatM1
import Derived.Test.YtegpfcmnjhmhjaaGreatYSymM
import Derived.Shelf.SlSortCmp.InsertionK
import Derived.Sort.AssemblyPlain
import Derived.Shelf.SlSortCmp.WholeK
import Derived.Test.YtegpfcmnjhmhjaaGreatChecked
import Derived.Shelf.SlLaysF0
import Derived.KernelRfl
namespace Go.Proofs.YtegpfcmnjhmhjaaGreat.Sym.Path
open Go
set_option maxRecDepth 20000
set_option linter.unusedVariables false
namespace poly_Trim
@[reducible] noncomputable def fn:Func:=Tryz.f36
noncomputable def atK1:List Itm:=focus [0,2,0,2,0,0,2,0,0] [.code (bodyOf fn)]
def inv1(site_17 l:List ARat)(t_8:Nat):St:=⟨[(3,(.row 17 0 site_17.length 3)),(6,(.pv (polyPV l))),(7,(eI (l.length:Int))),(8,(eI (t_8:Int)))],[(17,(.pure ((site_17:List ARat).map ARat.cells).flatten))]⟩
@[reducible] noncomputable def Loop1(site_17 l:List ARat)(t_8:Nat)(r:PV):Prop:=L prg fn atK1 (inv1 site_17 l t_8) r
noncomputable def atK2:List Itm:=focus [0,2,0,2,0,0,2,0,0,0,0,2,0,1,2,2,2,2,0,0,0] [.code (bodyOf fn)]
def inv2(site_17:List ARat):St:=⟨[(3,(.row 17 0 site_17.length 3))],[(17,(.pure ((site_17:List ARat).map ARat.cells).flatten))]⟩
@[reducible] noncomputable def Loop2(site_17:List ARat)(r:PV):Prop:=L prg fn atK2 (inv2 site_17) r
theorem e0 (l : List ARat) {r : PV}  (hL : Loop1 [] l 0 r) : Contract prg 36 [(polyPV l)] r :=
 Contract.ofL Tryz.func36 (by kernel_rfl) (L.go mixed tabOk (n:=87) (ns:=[1]) (tr:=[.reg [],.reg [.nil],.adopt 3 17 3,.reg [.none,(iI (l.length:Int))],.keep [3,6,7,8]]) (cj (o_len ARat.cells l) True.intro) (by kernel_rfl) hL)
theorem l10(site_17 l:List ARat)(t_8:Nat)(v add:ARat){r:PV}(h1:t_8<l.length)(h2:l[t_8]? = some v)(h3:Contract prg 19 [v.pv,(⟨false,[],[]⟩:ARat).pv] add.pv)(h4:((site_17++[add]):List ARat).length*56≤140737488355328)(h5:(t_8+1)<9223372036854775808)(hL:Loop1 (site_17++[add]) l (t_8+1) r):Loop1 site_17 l t_8 r :=
 L.go mixed tabOk (n:=126) (ns:=[1,3,1,6,1]) (tr:=[.auto,.reg [],.dec true,.reg [(.row t_8 (ARat.cells v))],.reg [.none,.none,.none,(.pv add.pv),.none,(.app ((site_17++[add]):List ARat).length (((site_17++[add]):List ARat).map ARat.cells).flatten)],.reg [(iI (((t_8+1):Nat):Int))],.keep [3,6,7,8],.drop [16,5]]) (cj (dltN_t h1) (cj (o_at ARat.cells (Eq.refl (((t_8:Nat):Int):Int)) h2) (cj h3 (cj (o_appR sz_ARat (site_17:List ARat) ([add]:List ARat) 56 (Eq.refl (site_17:List ARat).length) (Eq.refl ([add]:List ARat).length) h4 rfl) (cj (bs_addN h5) True.intro))))) (by kernel_rfl) hL
theorem l11(site_17 l:List ARat)(t_8:Nat){r:PV}(h1:l.length≤t_8)(hL:Loop2 site_17 r):Loop1 site_17 l t_8 r :=
 L.go mixed tabOk (n:=123) (ns:=[1]) (tr:=[.auto,.reg [],.dec false,.keep [3]]) (cj (dltN_f h1) True.intro) (by kernel_rfl) hL
theorem l20(site_17:List ARat)(k:Nat)(v:ARat)(sig:Int)(u:Nat){r:PV}(h1:0<site_17.length)(h2:InI64 ((site_17.length:Int)-1))(h3:((site_17.length:Int)-1)=(k:Int))(h4:k<site_17.length)(h5:site_17[k]? = some v)(h6:Contract prg 54 [v.pv] (vI sig))(h7:sig=0)(h8:((site_17.length:Int)-1)=(u:Int))(h9:u≤(site_17:List ARat).length)(hL:Loop2 (site_17.take u) r):Loop2 site_17 r :=
 L.go mixed tabOk (n:=150) (ns:=[1,1,1,1,1,1,2,1,2,1,1,1,1,1,1,5,1]) (tr:=[.auto,.reg [.none,.none,.none,.none,.none,.none,.none,(iI ((site_17.length:Int)-1)),(.nat k),(.seg [(vB v.neg),(wordsPV v.num),(wordsPV v.den)]),(.pv (vI sig)),.none,(.dec true)],.dec true,.reg [.none,.none,.none,(iI ((site_17.length:Int)-1)),(.slc 0 ((site_17.take u).length) [])],.cut 17 (u*3) (((site_17.take u):List ARat).map ARat.cells).flatten,.keep [3]]) (cj (dltN_t h1) (cj (dltN_t h1) (cj (dltN_t h1) (cj (dltN_t h1) (cj (bs_sub h2) (cj (dltN_t h1) (cj (cj h3 h4) (cj (dltN_t h1) (cj (o_seg sz_ARat h5) (cj (dltN_t h1) (cj h6 (cj (dltN_t h1) (cj (dltN_t h1) (cj (deq_t h7) (cj (bs_sub h2) (cj (o_sr0 (site_17:List ARat) h8 h9) (cj (o_cut sz_ARat (site_17:List ARat) u) True.intro))))))))))))))))) (by kernel_rfl) hL
theorem l21(site_17:List ARat)(k:Nat)(v:ARat)(sig:Int)(h1:0<site_17.length)(h2:InI64 ((site_17.length:Int)-1))(h3:((site_17.length:Int)-1)=(k:Int))(h4:k<site_17.length)(h5:site_17[k]? = some v)(h6:Contract prg 54 [v.pv] (vI sig))(h7:sig≠0):Loop2 site_17 (polyPV site_17) :=
 L.done mixed tabOk (n:=156) (ns:=[1,1,1,1,1,1,2,1,2,1,1,1,1,1,3]) (tr:=[.auto,.reg [.none,.none,.none,.none,.none,.none,.none,(iI ((site_17.length:Int)-1)),(.nat k),(.seg [(vB v.neg),(wordsPV v.num),(wordsPV v.den)]),(.pv (vI sig)),.none,(.dec true)],.dec false,.reg [],.frzT 2 ((site_17:List ARat).map ARat.cells)]) (cj (dltN_t h1) (cj (dltN_t h1) (cj (dltN_t h1) (cj (dltN_t h1) (cj (bs_sub h2) (cj (dltN_t h1) (cj (cj h3 h4) (cj (dltN_t h1) (cj (o_seg sz_ARat h5) (cj (dltN_t h1) (cj h6 (cj (dltN_t h1) (cj (dltN_t h1) (cj (deq_f h7) (cj (o_frz sz_ARat (site_17:List ARat) (Eq.refl (site_17:List ARat).length)) True.intro))))))))))))))) (by kernel_rfl)
theorem l22(site_17:List ARat)(h1:site_17.length≤0):Loop2 site_17 (polyPV site_17) :=
 L.done mixed tabOk (n:=156) (ns:=[1,1,1,1,1,1,1,1,1,3]) (tr:=[.auto,.reg [.none,.none,.none,.none,.skip,.skip,.skip,.skip,.skip,.skip,.skip,.skip,(.dec false)],.auto,.reg [],.frzT 2 ((site_17:List ARat).map ARat.cells)]) (cj (dltN_f h1) (cj (dltN_f h1) (cj (dltN_f h1) (cj (dltN_f h1) (cj (dltN_f h1) (cj (dltN_f h1) (cj (dltN_f h1) (cj (dltN_f h1) (cj (dltN_f h1) (cj (o_frz sz_ARat (site_17:List ARat) (Eq.refl (site_17:List ARat).length)) True.intro)))))))))) (by kernel_rfl)
end poly_Trim
namespace poly_Compose
@[reducible] noncomputable def fn:Func:=Tryz.f38
noncomputable def atK1:List Itm:=focus [0,2,0,0,2,0,2,1,2,0,0,2,1,2,0,2,0,0,2,0,0] [.code (bodyOf fn)]
def inv1(p q out_7:List ARat)(i_8:Int):St:=⟨[(0,(.pv (polyPV p))),(1,(.pv (polyPV q))),(7,(.pv (polyPV out_7))),(8,(eI i_8))],[]⟩
@[reducible] noncomputable def Loop1(p q out_7:List ARat)(i_8:Int)(r:PV):Prop:=L prg fn atK1 (inv1 p q out_7 i_8) r
theorem e1(p q:List ARat)(deg deg1:Int){r:PV}(h1:Contract prg 82 [(lpv (lcell ARat.cells) [p,q])] .nilI)(h2:1<p.length)(h3:1<q.length)(h4:Contract prg 56 [(polyPV p)] (vI deg))(h5:Contract prg 56 [(polyPV q)] (vI deg1))(h6:InI64 (deg*deg1))(h7:(deg*deg1)≤64)(h8:InI64 ((p.length:Int)-1))(hL:Loop1 p q [] ((p.length:Int)-1) r):Contract prg 38 [(polyPV p),(polyPV q)] r :=
 Contract.ofL Tryz.func38 (by kernel_rfl) (L.go mixed tabOk (n:=123) (ns:=[3,1,1,1,1,1,1,1,1,1,1,1,1,1,1,1,1,1,1,1,1]) (tr:=[.reg [],.reg [.none,.none,(.slc 0 0 (([p,q]:List (List ARat)).map (lcell ARat.cells))),(.pv .nilI)],.reg [],.auto,.reg [.none,(iI (p.length:Int)),.none,.none,.none,(iI (q.length:Int)),.none,(.dec true),.none,.none,(.pv (vI deg)),.none,(.pv (vI deg1)),(iI (deg*deg1)),.none,(.dec true)],.dec false,.reg [],.reg [.none,(iI (p.length:Int)),(iI ((p.length:Int)-1))],.keep [0,1,7,8]]) (cj (o_bs (sz_l ARat.cells) ([p,q]:List (List ARat))) (cj h1 (cj (o_len ARat.cells p) (cj (dltN_t h2) (cj (dltN_t h2) (cj (o_len ARat.cells q) (cj (dltN_t h2) (cj (dltN_t h2) (cj (dltN_t h3) (cj (dltN_t h3) (cj h4 (cj (dltN_t h3) (cj (dltN_t h3) (cj h5 (cj (dltN_t h3) (cj (bs_mul h6) (cj (dltN_t h3) (cj (dltN_t h3) (cj (dlt_f h7) (cj (o_len ARat.cells p) (cj (bs_sub h8) True.intro))))))))))))))))))))) (by kernel_rfl) hL)
theorem e2(p q:List ARat){r:PV}(h1:Contract prg 82 [(lpv (lcell ARat.cells) [p,q])] .nilI)(h2:1<p.length)(h3:q.length≤1)(h4:InI64 ((p.length:Int)-1))(hL:Loop1 p q [] ((p.length:Int)-1) r):Contract prg 38 [(polyPV p),(polyPV q)] r :=
 Contract.ofL Tryz.func38 (by kernel_rfl) (L.go mixed tabOk (n:=123) (ns:=[3,1,1,1,1,1,1,1,1,1,1,1,1,1,1,1,1]) (tr:=[.reg [],.reg [.none,.none,(.slc 0 0 (([p,q]:List (List ARat)).map (lcell ARat.cells))),(.pv .nilI)],.reg [],.auto,.reg [.none,(iI (p.length:Int)),.none,.none,.none,(iI (q.length:Int)),.none,(.dec true),.none,.skip,.skip,.skip,.skip,.skip,.skip,(.dec false)],.auto,.reg [],.reg [.none,(iI (p.length:Int)),(iI ((p.length:Int)-1))],.keep [0,1,7,8]]) (cj (o_bs (sz_l ARat.cells) ([p,q]:List (List ARat))) (cj h1 (cj (o_len ARat.cells p) (cj (dltN_t h2) (cj (dltN_t h2) (cj (o_len ARat.cells q) (cj (dltN_t h2) (cj (dltN_t h2) (cj (dltN_f h3) (cj (dltN_f h3) (cj (dltN_f h3) (cj (dltN_f h3) (cj (dltN_f h3) (cj (dltN_f h3) (cj (dltN_f h3) (cj (o_len ARat.cells p) (cj (bs_sub h4) True.intro))))))))))))))))) (by kernel_rfl) hL)
theorem e3(p q:List ARat){r:PV}(h1:Contract prg 82 [(lpv (lcell ARat.cells) [p,q])] .nilI)(h2:p.length≤1)(h3:InI64 ((p.length:Int)-1))(hL:Loop1 p q [] ((p.length:Int)-1) r):Contract prg 38 [(polyPV p),(polyPV q)] r :=
 Contract.ofL Tryz.func38 (by kernel_rfl) (L.go mixed tabOk (n:=123) (ns:=[3,1,1,1,1,1,1,1,1,1,1,1,1,1,1]) (tr:=[.reg [],.reg [.none,.none,(.slc 0 0 (([p,q]:List (List ARat)).map (lcell ARat.cells))),(.pv .nilI)],.reg [],.auto,.reg [.none,(iI (p.length:Int)),.none,.none,.skip,.skip,.skip,(.dec false),.none,.skip,.skip,.skip,.skip,.skip,.skip],.auto,.reg [],.reg [.none,(iI (p.length:Int)),(iI ((p.length:Int)-1))],.keep [0,1,7,8]]) (cj (o_bs (sz_l ARat.cells) ([p,q]:List (List ARat))) (cj h1 (cj (o_len ARat.cells p) (cj (dltN_f h2) (cj (dltN_f h2) (cj (dltN_f h2) (cj (dltN_f h2) (cj (Eq.refl false) (cj (Eq.refl false) (cj (Eq.refl false) (cj (Eq.refl false) (cj (Eq.refl false) (cj (Eq.refl false) (cj (o_len ARat.cells p) (cj (bs_sub h3) True.intro))))))))))))))) (by kernel_rfl) hL)
theorem l10(p q out_7:List ARat)(i_8:Int)(tim:List ARat)(l u:Nat)(tri:List ARat)(of:ARat)(plu:List ARat){r:PV}(h1:0≤i_8)(h2:Contract prg 84 [(polyPV out_7),(polyPV q)] (polyPV tim))(h3:InI64 (i_8+1))(h4:i_8=(l:Int))(h5:(i_8+1)=(u:Int))(h6:u≤p.length)(h7:l≤u)(h8:Contract prg 36 [(polyPV ((p.take u).drop l))] (polyPV tri))(h9:Contract prg 70 [(vI 1)] of.pv)(h10:Contract prg 83 [(polyPV tim),(polyPV tri),of.pv] (polyPV plu))(h11:InI64 (i_8-1))(hL:Loop1 p q plu (i_8-1) r):Loop1 p q out_7 i_8 r :=
 L.go mixed tabOk (n:=156) (ns:=[1,1,1,6,1,1,1,1]) (tr:=[.auto,.reg [],.dec true,dr 11 1 [.none,.none,(.pv (polyPV tim)),.none,.none,.none,(iI (i_8+1)),(.slc l u ((((p.take u).drop l):List ARat).map ARat.cells)),(.pv (polyPV tri)),(.pv of.pv),(.pv (polyPV plu))],.reg [.none,(iI (i_8-1))],.keep [0,1,7,8]]) (cj (dle_t h1) (cj h2 (cj (bs_add h3) (cj (o_sl sz_ARat (p:List ARat) h4 h5 h7 h6) (cj h8 (cj h9 (cj h10 (cj (bs_sub h11) True.intro)))))))) (by kernel_rfl) hL
theorem l11(p q out_7:List ARat)(i_8:Int)(h1:i_8<0):Loop1 p q out_7 i_8 (.tup [(polyPV out_7),.nilI]) :=
 L.done mixed tabOk (n:=156) (ns:=[1]) (tr:=[.auto,.reg [],.dec false,.reg []]) (cj (dle_f h1) True.intro) (by kernel_rfl)
end poly_Compose
namespace poly_Check
@[reducible] noncomputable def fn:Func:=Tryz.f55
noncomputable def atK1:List Itm:=focus [0,2,0,0,2,1,2,0,0,2,0,0] [.code (bodyOf fn)]
def inv1(p:List ARat)(t_11:Nat):St:=⟨[(0,(.pv (polyPV p))),(9,(.pv (polyPV p))),(10,(eI (p.length:Int))),(11,(eI (t_11:Int)))],[]⟩
@[reducible] noncomputable def Loop1(p:List ARat)(t_11:Nat)(r:PV):Prop:=L prg fn atK1 (inv1 p t_11) r
theorem e0(p:List ARat)(h1:65<p.length):Contract prg 55 [(polyPV p)] (.iface 44 (vI 4)) :=
 Contract.ofL Tryz.func55 (by kernel_rfl) (L.done mixed tabOk (n:=84) (ns:=[1,1]) (tr:=[.reg [],.reg [.none,(iI (p.length:Int))],.dec true,.reg []]) (cj (o_len ARat.cells p) (cj (dltN_t h1) True.intro)) (by kernel_rfl))
theorem e1(p:List ARat){r:PV}(h1:p.length≤65)(hL:Loop1 p 0 r):Contract prg 55 [(polyPV p)] r :=
 Contract.ofL Tryz.func55 (by kernel_rfl) (L.go mixed tabOk (n:=96) (ns:=[1,1,1]) (tr:=[.reg [],.reg [.none,(iI (p.length:Int))],.dec false,.reg [.none,(iI (p.length:Int))],.keep [0,9,10,11]]) (cj (o_len ARat.cells p) (cj (dltN_f h1) (cj (o_len ARat.cells p) True.intro))) (by kernel_rfl) hL)
theorem l10(p:List ARat)(t_11:Nat)(v:ARat)(val:Bool)(h1:t_11<p.length)(h2:p[t_11]? = some v)(h3:Contract prg 28 [v.pv] (vB val))(h4:val=false):Loop1 p t_11 (.iface 44 (vI 2)) :=
 L.done mixed tabOk (n:=141) (ns:=[1,3,1,1]) (tr:=[.auto,.reg [],.dec true,.reg [(.row t_11 (ARat.cells v))],.reg [.none,(.pv (vB val))],.dec true,.reg []]) (cj (dltN_t h1) (cj (o_at ARat.cells (Eq.refl (((t_11:Nat):Int):Int)) h2) (cj h3 (cj (bnot_t h4) True.intro)))) (by kernel_rfl)
theorem l11(p:List ARat)(t_11:Nat)(v:ARat)(val:Bool){r:PV}(h1:t_11<p.length)(h2:p[t_11]? = some v)(h3:Contract prg 28 [v.pv] (vB val))(h4:val=true)(h5:(t_11+1)<9223372036854775808)(hL:Loop1 p (t_11+1) r):Loop1 p t_11 r :=
 L.go mixed tabOk (n:=144) (ns:=[1,3,1,1,1]) (tr:=[.auto,.reg [],.dec true,.reg [(.row t_11 (ARat.cells v))],.reg [.none,(.pv (vB val))],.dec false,.reg [(iI (((t_11+1):Nat):Int))],.keep [0,9,10,11],.drop [4]]) (cj (dltN_t h1) (cj (o_at ARat.cells (Eq.refl (((t_11:Nat):Int):Int)) h2) (cj h3 (cj (bnot_f h4) (cj (bs_addN h5) True.intro))))) (by kernel_rfl) hL
theorem l12(p:List ARat)(t_11 k:Nat)(v:ARat)(sig:Int)(h1:p.length≤t_11)(h2:0<p.length)(h3:InI64 ((p.length:Int)-1))(h4:((p.length:Int)-1)=(k:Int))(h5:p[k]? = some v)(h6:Contract prg 54 [v.pv] (vI sig))(h7:sig=0):Loop1 p t_11 (.iface 44 (vI 8)) :=
 L.done mixed tabOk (n:=141) (ns:=[1,1,1,1,1,1,1,1,1,3,1,1,1,1,1,1]) (tr:=[.auto,.reg [],.dec false,.reg [.none,(iI (p.length:Int)),.none,.none,.none,.none,(iI (p.length:Int)),(iI ((p.length:Int)-1)),(.row k (ARat.cells v)),.none,(.pv (vI sig)),.none,(.dec true)],.dec true,.reg []]) (cj (dltN_f h1) (cj (o_len ARat.cells p) (cj (dltN_t h2) (cj (dltN_t h2) (cj (dltN_t h2) (cj (o_len ARat.cells p) (cj (dltN_t h2) (cj (bs_sub h3) (cj (dltN_t h2) (cj (o_at ARat.cells h4 h5) (cj (dltN_t h2) (cj (dltN_t h2) (cj h6 (cj (dltN_t h2) (cj (dltN_t h2) (cj (deq_t h7) True.intro)))))))))))))))) (by kernel_rfl)
theorem l13(p:List ARat)(t_11 k:Nat)(v:ARat)(sig:Int)(h1:p.length≤t_11)(h2:0<p.length)(h3:InI64 ((p.length:Int)-1))(h4:((p.length:Int)-1)=(k:Int))(h5:p[k]? = some v)(h6:Contract prg 54 [v.pv] (vI sig))(h7:sig≠0):Loop1 p t_11 .nilI :=
 L.done mixed tabOk (n:=144) (ns:=[1,1,1,1,1,1,1,1,1,3,1,1,1,1,1,1]) (tr:=[.auto,.reg [],.dec false,.reg [.none,(iI (p.length:Int)),.none,.none,.none,.none,(iI (p.length:Int)),(iI ((p.length:Int)-1)),(.row k (ARat.cells v)),.none,(.pv (vI sig)),.none,(.dec true)],.dec false,.reg []]) (cj (dltN_f h1) (cj (o_len ARat.cells p) (cj (dltN_t h2) (cj (dltN_t h2) (cj (dltN_t h2) (cj (o_len ARat.cells p) (cj (dltN_t h2) (cj (bs_sub h3) (cj (dltN_t h2) (cj (o_at ARat.cells h4 h5) (cj (dltN_t h2) (cj (dltN_t h2) (cj h6 (cj (dltN_t h2) (cj (dltN_t h2) (cj (deq_f h7) True.intro)))))))))))))))) (by kernel_rfl)
theorem l14(p:List ARat)(t_11:Nat)(h1:p.length≤t_11)(h2:p.length≤0):Loop1 p t_11 .nilI :=
 L.done mixed tabOk (n:=144) (ns:=[1,1,1,1,1,1,1,1,1,1,1]) (tr:=[.auto,.reg [],.dec false,.reg [.none,(iI (p.length:Int)),.none,.none,.skip,.skip,.skip,.skip,.skip,.skip,.skip,.skip,(.dec false)],.auto,.reg []]) (cj (dltN_f h1) (cj (o_len ARat.cells p) (cj (dltN_f h2) (cj (dltN_f h2) (cj (dltN_f h2) (cj (dltN_f h2) (cj (dltN_f h2) (cj (dltN_f h2) (cj (dltN_f h2) (cj (dltN_f h2) (cj (dltN_f h2) True.intro))))))))))) (by kernel_rfl)
end poly_Check
namespace poly_Degree
theorem e0(p:List ARat)(h1:InI64 ((p.length:Int)-1)):Contract prg 56 [(polyPV p)] (vI ((p.length:Int)-1)) :=
 Contract.ofL Tryz.func56 (by kernel_rfl) (L.done mixed tabOk (n:=72) (ns:=[1,1]) (tr:=[.reg [],.reg [.none,(iI (p.length:Int)),(iI ((p.length:Int)-1))]]) (cj (o_len ARat.cells p) (cj (bs_sub h1) True.intro)) (by kernel_rfl))
end poly_Degree
namespace poly_Eval
@[reducible] noncomputable def fn:Func:=Tryz.f57
noncomputable def atK1:List Itm:=focus [0,2,0,0,2,0,2,1,2,0,2,0,0,2,0,0] [.code (bodyOf fn)]
def inv1(p:List ARat)(i_8:Int)(x site_7:ARat):St:=⟨[(0,(.pv (polyPV p))),(3,(.ptr 3 0)),(4,(.ptr 4 0)),(7,(.ptr 7 0)),(8,(eI i_8))],[(3,(.lit [(eB x.neg),(.pv (wordsPV x.num)),(.pv (wordsPV x.den))])),(4,(.lit [(eB false),(.pv (.list [])),(.pv (.list []))])),(7,(.lit [(eB site_7.neg),(.pv (wordsPV site_7.num)),(.pv (wordsPV site_7.den))]))]⟩
@[reducible] noncomputable def Loop1(p:List ARat)(i_8:Int)(x site_7:ARat)(r:PV):Prop:=L prg fn atK1 (inv1 p i_8 x site_7) r
theorem e0(p:List ARat)(x:ARat){r:PV}(h1:Contract prg 55 [(polyPV p)] .nilI)(h2:InI64 ((p.length:Int)-1))(hL:Loop1 p ((p.length:Int)-1) x (⟨false,[],[]⟩:ARat) r):Contract prg 57 [(polyPV p),x.pv] r :=
 Contract.ofL Tryz.func57 (by kernel_rfl) (L.go mixed tabOk (n:=108) (ns:=[1,1,1]) (tr:=[.reg [],.reg [.none,(.pv .nilI)],.reg [],.auto,.reg [],.reg [.none,(iI (p.length:Int)),(iI ((p.length:Int)-1))],.keep [0,3,4,7,8],.ord [3,4,7]]) (cj h1 (cj (o_len ARat.cells p) (cj (bs_sub h2) True.intro))) (by kernel_rfl) hL)
theorem l10(p:List ARat)(i_8:Int)(x site_7 mul:ARat)(k:Nat)(v add:ARat){r:PV}(h1:0≤i_8)(h2:Contract prg 69 [site_7.pv,x.pv] mul.pv)(h3:i_8=(k:Int))(h4:p[k]? = some v)(h5:Contract prg 19 [mul.pv,v.pv] add.pv)(h6:InI64 (i_8-1))(hL:Loop1 p (i_8-1) x add r):Loop1 p i_8 x site_7 r :=
 L.go mixed tabOk (n:=141) (ns:=[1,1,3,1,1]) (tr:=[.auto,.reg [],.dec true,dr 8 1 [.none,.none,(.pv mul.pv),.none,.none,(.row k (ARat.cells v)),.none,(.pv add.pv)],.reg [.none,(iI (i_8-1))],.keep [0,3,4,7,8]]) (cj (dle_t h1) (cj h2 (cj (o_at ARat.cells h3 h4) (cj h5 (cj (bs_sub h6) True.intro))))) (by kernel_rfl) hL
theorem l11(p:List ARat)(i_8:Int)(x site_7:ARat)(h1:i_8<0):Loop1 p i_8 x site_7 (.tup [site_7.pv,.nilI]) :=
 L.done mixed tabOk (n:=141) (ns:=[1]) (tr:=[.auto,.reg [],.dec false,.reg []]) (cj (dle_f h1) True.intro) (by kernel_rfl)
end poly_Eval
namespace poly_Derive
theorem e0(p der:List ARat)(h1:Contract prg 55 [(polyPV p)] .nilI)(h2:Contract prg 111 [(polyPV p)] (polyPV der)):Contract prg 64 [(polyPV p)] (.tup [(polyPV der),.nilI]) :=
 Contract.ofL Tryz.func64 (by kernel_rfl) (L.done mixed tabOk (n:=93) (ns:=[1,1]) (tr:=[.reg [],.reg [.none,(.pv .nilI)],.reg [],.auto,.reg [.none,(.pv (polyPV der))]]) (cj h1 (cj h2 True.intro)) (by kernel_rfl))
end poly_Derive
namespace poly_checks
@[reducible] noncomputable def fn:Func:=Tryz.f82
noncomputable def atK1:List Itm:=focus [0,2,0,0,2,0,0] [.code (bodyOf fn)]
def inv1(list:List (List ARat))(t_8:Nat):St:=⟨[(6,(.pv (lpv (lcell ARat.cells) list))),(7,(eI (list.length:Int))),(8,(eI (t_8:Int)))],[]⟩
@[reducible] noncomputable def Loop1(list:List (List ARat))(t_8:Nat)(r:PV):Prop:=L prg fn atK1 (inv1 list t_8) r
theorem e0 (list : List (List ARat)) {r : PV}  (hL : Loop1 list 0 r) : Contract prg 82 [(lpv (lcell ARat.cells) list)] r :=
 Contract.ofL Tryz.func82 (by kernel_rfl) (L.go mixed tabOk (n:=81) (ns:=[1]) (tr:=[.reg [],.reg [.none,(iI (list.length:Int))],.keep [6,7,8]]) (cj (o_len (lcell ARat.cells) list) True.intro) (by kernel_rfl) hL)
theorem l10(list:List (List ARat))(t_8:Nat)(v:List ARat){r:PV}(h1:t_8<list.length)(h2:list[t_8]? = some v)(h3:Contract prg 55 [(polyPV v)] .nilI)(h4:(t_8+1)<9223372036854775808)(hL:Loop1 list (t_8+1) r):Loop1 list t_8 r :=
 L.go mixed tabOk (n:=135) (ns:=[1,3,1,1]) (tr:=[.auto,.reg [],.dec true,.reg [(.row t_8 ((lcell ARat.cells) v))],.reg [.none,(.pv .nilI)],.reg [],.auto,.reg [(iI (((t_8+1):Nat):Int))],.keep [6,7,8]]) (cj (dltN_t h1) (cj (o_at (lcell ARat.cells) (Eq.refl (((t_8:Nat):Int):Int)) h2) (cj h3 (cj (bs_addN h4) True.intro)))) (by kernel_rfl) hL
theorem l11(list:List (List ARat))(t_8:Nat)(v:List ARat)(che:Int)(h1:t_8<list.length)(h2:list[t_8]? = some v)(h3:Contract prg 55 [(polyPV v)] (.iface 44 (vI che))):Loop1 list t_8 (.iface 44 (vI che)) :=
 L.done mixed tabOk (n:=132) (ns:=[1,3,1]) (tr:=[.auto,.reg [],.dec true,.reg [(.row t_8 ((lcell ARat.cells) v))],.reg [.none,(.pv (.iface 44 (vI che)))],.reg [],.auto,.reg []]) (cj (dltN_t h1) (cj (o_at (lcell ARat.cells) (Eq.refl (((t_8:Nat):Int):Int)) h2) (cj h3 True.intro))) (by kernel_rfl)
theorem l12(list:List (List ARat))(t_8:Nat)(h1:list.length≤t_8):Loop1 list t_8 .nilI :=
 L.done mixed tabOk (n:=114) (ns:=[1]) (tr:=[.auto,.reg [],.dec false,.reg []]) (cj (dltN_f h1) True.intro) (by kernel_rfl)
end poly_checks
namespace poly_plus
@[reducible] noncomputable def fn:Func:=Tryz.f83
noncomputable def atK1:List Itm:=focus [0,2,0,2,0,0,2,0,0] [.code (bodyOf fn)]
def inv1(p q:List ARat)(t_17:Nat)(c:ARat)(site_14:List ARat):St:=⟨[(0,(.pv (polyPV p))),(1,(.pv (polyPV q))),(5,(.ptr 5 0)),(7,(.row 14 0 (max p.length q.length) 3)),(16,(eI (((max p.length q.length):Nat):Int))),(17,(eI (t_17:Int)))],[(5,(.lit [(eB c.neg),(.pv (wordsPV c.num)),(.pv (wordsPV c.den))])),(14,(.pure ((site_14:List ARat).map ARat.cells).flatten))]⟩
@[reducible] noncomputable def Loop1(p q:List ARat)(t_17:Nat)(c:ARat)(site_14:List ARat)(r:PV):Prop:=L prg fn atK1 (inv1 p q t_17 c site_14) r
theorem e0(p q:List ARat)(c:ARat){r:PV}(h1:56*(max p.length q.length)≤140737488355328)(hL:Loop1 p q 0 c (List.replicate (max p.length q.length) (⟨false,[],[]⟩:ARat)) r):Contract prg 83 [(polyPV p),(polyPV q),c.pv] r :=
 Contract.ofL Tryz.func83 (by kernel_rfl) (L.go mixed tabOk (n:=87) (ns:=[1,1,1,5]) (tr:=[.reg [],.reg [.none,(iI (p.length:Int)),.none,(iI (q.length:Int)),(iI (((max p.length q.length):Nat):Int)),(.app (max p.length q.length) ((List.replicate (max p.length q.length) (⟨false,[],[]⟩:ARat):List ARat).map ARat.cells).flatten)],.reg [],.keep [0,1,5,7,16,17],.ord [5,14]]) (cj (o_len ARat.cells p) (cj (o_len ARat.cells q) (cj (o_maxN p.length q.length) (cj (o_mk ARat.cells (⟨false,[],[]⟩:ARat) 56 (max p.length q.length) (Eq.refl ((((max p.length q.length):Nat):Int):Int)) h1 rfl) True.intro)))) (by kernel_rfl) hL)
theorem l10(p q:List ARat)(t_17:Nat)(c:ARat)(site_14:List ARat)(coe coe1 mul add:ARat){r:PV}(h1:t_17<(max p.length q.length))(h2:Contract prg 124 [(polyPV p),(vI (t_17:Int))] coe.pv)(h3:Contract prg 124 [(polyPV q),(vI (t_17:Int))] coe1.pv)(h4:Contract prg 69 [c.pv,coe1.pv] mul.pv)(h5:Contract prg 19 [coe.pv,mul.pv] add.pv)(h6:t_17<site_14.length)(h7:(t_17+1)<9223372036854775808)(hL:Loop1 p q (t_17+1) c (site_14.set t_17 add) r):Loop1 p q t_17 c site_14 r :=
 L.go mixed tabOk (n:=126) (ns:=[1,1,1,1,1,2,2,1]) (tr:=[.auto,.reg [],.dec true,.reg [],dr 12 1 [.none,.none,.none,.none,(.pv coe.pv),.none,.none,.none,(.pv coe1.pv),(.pv mul.pv),(.pv add.pv),(.nat t_17),(.cells (.pure (((site_14.set t_17 add):List ARat).map ARat.cells).flatten))],.reg [(iI (((t_17+1):Nat):Int))],.keep [0,1,5,7,16,17]]) (cj (dltN_t h1) (cj h2 (cj h3 (cj h4 (cj h5 (cj (cj (Eq.refl (((t_17:Nat):Int):Int)) h1) (cj (o_set sz_ARat (site_14:List ARat) add h6) (cj (bs_addN h7) True.intro)))))))) (by kernel_rfl) hL
theorem l11(p q:List ARat)(t_17:Nat)(c:ARat)(site_14 tri:List ARat)(h1:(max p.length q.length)≤t_17)(h2:(max p.length q.length)=site_14.length)(h3:Contract prg 36 [(polyPV site_14)] (polyPV tri)):Loop1 p q t_17 c site_14 (polyPV tri) :=
 L.done mixed tabOk (n:=120) (ns:=[1,3,1]) (tr:=[.auto,.reg [],.dec false,.frzT 7 ((site_14:List ARat).map ARat.cells),.reg [.none,(.pv (polyPV tri))]]) (cj (dltN_f h1) (cj (o_frz sz_ARat (site_14:List ARat) h2) (cj h3 True.intro))) (by kernel_rfl)
end poly_plus
namespace poly_times
@[reducible] noncomputable def fn:Func:=Tryz.f84
noncomputable def atK1:List Itm:=focus [0,2,0,0,2,1,2,0,2,0,0,2,0,0] [.code (bodyOf fn)]
def inv1(q:List ARat)(m:Nat)(p:List ARat)(t_27:Nat)(site_24:List ARat):St:=⟨[(1,(.pv (polyPV q))),(5,(.row 24 0 m 3)),(25,(.pv (polyPV p))),(26,(eI (p.length:Int))),(27,(eI (t_27:Int)))],[(24,(.pure ((site_24:List ARat).map ARat.cells).flatten))]⟩
@[reducible] noncomputable def Loop1(q:List ARat)(m:Nat)(p:List ARat)(t_27:Nat)(site_24:List ARat)(r:PV):Prop:=L prg fn atK1 (inv1 q m p t_27 site_24) r
noncomputable def atK2:List Itm:=focus [0,2,0,0,2,1,2,0,2,0,0,2,0,0,0,0,2,0,0,2,0,0,0,2,0,2,0,0] [.code (bodyOf fn)]
def inv2(q:List ARat)(m i_6:Nat)(p:List ARat)(t_27 t_34:Nat)(v:ARat)(site_24:List ARat):St:=⟨[(1,(.pv (polyPV q))),(5,(.row 24 0 m 3)),(6,(eI (i_6:Int))),(7,(.ptr 7 0)),(25,(.pv (polyPV p))),(26,(eI (p.length:Int))),(27,(eI (t_27:Int))),(32,(.pv (polyPV q))),(33,(eI (q.length:Int))),(34,(eI (t_34:Int)))],[(7,(.lit [(eB v.neg),(.pv (wordsPV v.num)),(.pv (wordsPV v.den))])),(24,(.pure ((site_24:List ARat).map ARat.cells).flatten))]⟩
@[reducible] noncomputable def Loop2(q:List ARat)(m i_6:Nat)(p:List ARat)(t_27 t_34:Nat)(v:ARat)(site_24:List ARat)(r:PV):Prop:=L prg fn atK2 (inv2 q m i_6 p t_27 t_34 v site_24) r
theorem e0(p q:List ARat)(h1:p.length=0):Contract prg 84 [(polyPV p),(polyPV q)] (polyPV []) :=
 Contract.ofL Tryz.func84 (by kernel_rfl) (L.done mixed tabOk (n:=84) (ns:=[1,1,1,1,1]) (tr:=[.reg [],.reg [.none,(iI (p.length:Int)),.none,.none,.skip,.skip,.skip,(.dec true)],.auto,.reg []]) (cj (o_len ARat.cells p) (cj (deqN_t h1) (cj (deqN_t h1) (cj (deqN_t h1) (cj (deqN_t h1) True.intro))))) (by kernel_rfl))
theorem e1(p q:List ARat)(h1:p.length≠0)(h2:q.length=0):Contract prg 84 [(polyPV p),(polyPV q)] (polyPV []) :=
 Contract.ofL Tryz.func84 (by kernel_rfl) (L.done mixed tabOk (n:=84) (ns:=[1,1,1,1,1,1,1]) (tr:=[.reg [],.reg [.none,(iI (p.length:Int)),.none,.none,.none,(iI (q.length:Int)),.none,(.dec false)],.dec true,.reg []]) (cj (o_len ARat.cells p) (cj (deqN_f h1) (cj (deqN_f h1) (cj (o_len ARat.cells q) (cj (deqN_f h1) (cj (deqN_f h1) (cj (deqN_t h2) True.intro))))))) (by kernel_rfl))
theorem e2(p q:List ARat)(m:Nat){r:PV}(h1:p.length≠0)(h2:q.length≠0)(h3:(p.length+q.length)<9223372036854775808)(h4:InI64 ((((p.length+q.length):Nat):Int)-1))(h5:((((p.length+q.length):Nat):Int)-1)=(m:Int))(h6:56*m≤140737488355328)(hL:Loop1 q m p 0 (List.replicate m (⟨false,[],[]⟩:ARat)) r):Contract prg 84 [(polyPV p),(polyPV q)] r :=
 Contract.ofL Tryz.func84 (by kernel_rfl) (L.go mixed tabOk (n:=102) (ns:=[1,1,1,1,1,1,1,1,1,1,1,5,1]) (tr:=[.reg [],.reg [.none,(iI (p.length:Int)),.none,.none,.none,(iI (q.length:Int)),.none,(.dec false)],.dec false,.reg [.none,(iI (p.length:Int)),.none,(iI (q.length:Int)),(iI (((p.length+q.length):Nat):Int)),(iI ((((p.length+q.length):Nat):Int)-1)),(.app m ((List.replicate m (⟨false,[],[]⟩:ARat):List ARat).map ARat.cells).flatten)],.reg [.none,(iI (p.length:Int))],.keep [1,5,25,26,27]]) (cj (o_len ARat.cells p) (cj (deqN_f h1) (cj (deqN_f h1) (cj (o_len ARat.cells q) (cj (deqN_f h1) (cj (deqN_f h1) (cj (deqN_f h2) (cj (o_len ARat.cells p) (cj (o_len ARat.cells q) (cj (bs_addN h3) (cj (bs_sub h4) (cj (o_mk ARat.cells (⟨false,[],[]⟩:ARat) 56 m h5 h6 rfl) (cj (o_len ARat.cells p) True.intro))))))))))))) (by kernel_rfl) hL)
theorem l10(q:List ARat)(m:Nat)(p:List ARat)(t_27:Nat)(site_24:List ARat)(v:ARat){r:PV}(h1:t_27<p.length)(h2:p[t_27]? = some v)(hL:Loop2 q m t_27 p t_27 0 v site_24 r):Loop1 q m p t_27 site_24 r :=
 L.go mixed tabOk (n:=144) (ns:=[1,3,1]) (tr:=[.auto,.reg [],.dec true,.reg [.none,(.row t_27 (ARat.cells v))],.reg [.none,(iI (q.length:Int))],.keep [1,5,6,7,25,26,27,32,33,34]]) (cj (dltN_t h1) (cj (o_at ARat.cells (Eq.refl (((t_27:Nat):Int):Int)) h2) (cj (o_len ARat.cells q) True.intro))) (by kernel_rfl) hL
theorem l11(q:List ARat)(m:Nat)(p:List ARat)(t_27:Nat)(site_24 tri:List ARat)(h1:p.length≤t_27)(h2:m=site_24.length)(h3:Contract prg 36 [(polyPV site_24)] (polyPV tri)):Loop1 q m p t_27 site_24 (polyPV tri) :=
 L.done mixed tabOk (n:=135) (ns:=[1,3,1]) (tr:=[.auto,.reg [],.dec false,.frzT 5 ((site_24:List ARat).map ARat.cells),.reg [.none,(.pv (polyPV tri))]]) (cj (dltN_f h1) (cj (o_frz sz_ARat (site_24:List ARat) h2) (cj h3 True.intro))) (by kernel_rfl)
theorem l20(q:List ARat)(m i_6:Nat)(p:List ARat)(t_27 t_34:Nat)(v:ARat)(site_24:List ARat)(v1 v2 mul add:ARat){r:PV}(h1:t_34<q.length)(h2:q[t_34]? = some v1)(h3:(i_6+t_34)<9223372036854775808)(h4:(i_6+t_34)<m)(h5:site_24[(i_6+t_34)]? = some v2)(h6:Contract prg 69 [v.pv,v1.pv] mul.pv)(h7:Contract prg 19 [v2.pv,mul.pv] add.pv)(h8:(i_6+t_34)<site_24.length)(h9:(t_34+1)<9223372036854775808)(hL:Loop2 q m i_6 p t_27 (t_34+1) v (site_24.set (i_6+t_34) add) r):Loop2 q m i_6 p t_27 t_34 v site_24 r :=
 L.go mixed tabOk (n:=183) (ns:=[1,3,1,1,2,2,1,1,2,2,1]) (tr:=[.auto,.reg [],.dec true,.reg [.none,(.row t_34 (ARat.cells v1))],dr 15 1 [.none,.none,.none,(iI (((i_6+t_34):Nat):Int)),.none,.none,.none,(iI (((i_6+t_34):Nat):Int)),(.nat (i_6+t_34)),(.seg [(vB v2.neg),(wordsPV v2.num),(wordsPV v2.den)]),.none,.none,(.pv mul.pv),(.pv add.pv),(.nat (i_6+t_34)),(.cells (.pure (((site_24.set (i_6+t_34) add):List ARat).map ARat.cells).flatten))],.reg [(iI (((t_34+1):Nat):Int))],.keep [1,5,6,7,25,26,27,32,33,34],.drop [9]]) (cj (dltN_t h1) (cj (o_at ARat.cells (Eq.refl (((t_34:Nat):Int):Int)) h2) (cj (bs_addN h3) (cj (bs_addN h3) (cj (cj (Eq.refl ((((i_6+t_34):Nat):Int):Int)) h4) (cj (o_seg sz_ARat h5) (cj h6 (cj h7 (cj (cj (Eq.refl ((((i_6+t_34):Nat):Int):Int)) h4) (cj (o_set sz_ARat (site_24:List ARat) add h8) (cj (bs_addN h9) True.intro))))))))))) (by kernel_rfl) hL
theorem l21(q:List ARat)(m i_6:Nat)(p:List ARat)(t_27 t_34:Nat)(v:ARat)(site_24:List ARat){r:PV}(h1:q.length≤t_34)(h2:(t_27+1)<9223372036854775808)(hL:Loop1 q m p (t_27+1) site_24 r):Loop2 q m i_6 p t_27 t_34 v site_24 r :=
 L.go mixed tabOk (n:=177) (ns:=[1,1]) (tr:=[.auto,.reg [],.dec false,.reg [(iI (((t_27+1):Nat):Int))],.keep [1,5,25,26,27],.drop [7]]) (cj (dltN_f h1) (cj (bs_addN h2) True.intro)) (by kernel_rfl) hL
end poly_times
namespace poly_derive
@[reducible] noncomputable def fn:Func:=Tryz.f111
noncomputable def atK1:List Itm:=focus [0,2,0,2,0,0,2,0,0] [.code (bodyOf fn)]
def inv1(p site_20:List ARat)(i_4:Nat):St:=⟨[(0,(.pv (polyPV p))),(3,(.row 20 0 site_20.length 3)),(4,(eI (i_4:Int)))],[(20,(.pure ((site_20:List ARat).map ARat.cells).flatten))]⟩
@[reducible] noncomputable def Loop1(p site_20:List ARat)(i_4:Nat)(r:PV):Prop:=L prg fn atK1 (inv1 p site_20 i_4) r
theorem e0 (p : List ARat) {r : PV}  (hL : Loop1 p [] 1 r) : Contract prg 111 [(polyPV p)] r :=
 Contract.ofL Tryz.func111 (by kernel_rfl) (L.go mixed tabOk (n:=87) (ns:=[]) (tr:=[.reg [],.reg [.nil],.adopt 3 20 3,.reg [],.keep [0,3,4]]) True.intro (by kernel_rfl) hL)
theorem l10(p site_20:List ARat)(i_4:Nat)(of v mul:ARat){r:PV}(h1:i_4<p.length)(h2:Contract prg 70 [(vI (i_4:Int))] of.pv)(h3:p[i_4]? = some v)(h4:Contract prg 69 [of.pv,v.pv] mul.pv)(h5:((site_20++[mul]):List ARat).length*56≤140737488355328)(h6:(i_4+1)<9223372036854775808)(hL:Loop1 p (site_20++[mul]) (i_4+1) r):Loop1 p site_20 i_4 r :=
 L.go mixed tabOk (n:=120) (ns:=[1,1,1,3,1,6,1]) (tr:=[.auto,.reg [.none,.none,(iI (p.length:Int))],.dec true,dr 9 2 [.none,.none,(.pv of.pv),.none,.none,(.row i_4 (ARat.cells v)),.none,(.pv mul.pv),.none,(.app ((site_20++[mul]):List ARat).length (((site_20++[mul]):List ARat).map ARat.cells).flatten)],.reg [.none,(iI (((i_4+1):Nat):Int))],.keep [0,3,4],.drop [19]]) (cj (o_len ARat.cells p) (cj (dltN_t h1) (cj h2 (cj (o_at ARat.cells (Eq.refl (((i_4:Nat):Int):Int)) h3) (cj h4 (cj (o_appR sz_ARat (site_20:List ARat) ([mul]:List ARat) 56 (Eq.refl (site_20:List ARat).length) (Eq.refl ([mul]:List ARat).length) h5 rfl) (cj (bs_addN h6) True.intro))))))) (by kernel_rfl) hL
theorem l11(p site_20:List ARat)(i_4:Nat)(tri:List ARat)(h1:p.length≤i_4)(h2:Contract prg 36 [(polyPV site_20)] (polyPV tri)):Loop1 p site_20 i_4 (polyPV tri) :=
 L.done mixed tabOk (n:=120) (ns:=[1,1,3,1]) (tr:=[.auto,.reg [.none,.none,(iI (p.length:Int))],.dec false,.frzT 3 ((site_20:List ARat).map ARat.cells),.reg [.none,(.pv (polyPV tri))]]) (cj (o_len ARat.cells p) (cj (dltN_f h1) (cj (o_frz sz_ARat (site_20:List ARat) (Eq.refl (site_20:List ARat).length)) (cj h2 True.intro)))) (by kernel_rfl)
end poly_derive
namespace poly_coefficient
theorem e0(p:List ARat)(i:Int)(k:Nat)(v:ARat)(h1:i<(p.length:Int))(h2:i=(k:Int))(h3:p[k]? = some v):Contract prg 124 [(polyPV p),(vI i)] v.pv :=
 Contract.ofL Tryz.func124 (by kernel_rfl) (L.done mixed tabOk (n:=84) (ns:=[1,1,3]) (tr:=[.reg [],.reg [.none,.none,(iI (p.length:Int))],.dec true,.reg [.none,.none,(.row k (ARat.cells v))]]) (cj (o_len ARat.cells p) (cj (dlt_t h1) (cj (o_at ARat.cells h2 h3) True.intro))) (by kernel_rfl))
theorem e1(p:List ARat)(i:Int)(h1:(p.length:Int)≤i):Contract prg 124 [(polyPV p),(vI i)] ((⟨false,[],[]⟩:ARat).pv) :=
 Contract.ofL Tryz.func124 (by kernel_rfl) (L.done mixed tabOk (n:=87) (ns:=[1,1]) (tr:=[.reg [],.reg [.none,.none,(iI (p.length:Int))],.dec false,.reg []]) (cj (o_len ARat.cells p) (cj (dlt_f h1) True.intro)) (by kernel_rfl))
end poly_coefficient
end Go.Proofs.YtegpfcmnjhmhjaaGreat.Sym.Path
namespace Go.Proofs.YtegpfcmnjhmhjaaGreat.Sym
open Go Path CInt
set_option linter.unusedVariables false
namespace CPo
theorem addZ(a:ARat)(h:FitR a):Contract prg 19 [a.pv,(⟨false,[],[]⟩:ARat).pv] (mkR a.val).pv:=by
 have hf:=CFr.Add a ⟨false,[],[]⟩ h ⟨by simp,by simp⟩
 rwa[val_nil (a:=⟨false,[],[]⟩) rfl,Rat.add_zero] at hf
theorem Trim2:∀(n:Nat) (q:List Rat),q.length=n→n<4611686018427387904→Fl 274877906944 q→poly_Trim.Loop2 (q.map mkR) (polyPV ((trimL q).map mkR)):=by
 intro n
 induction n with
 |zero =>
  intro q hq _ _
  have:q=[]:=List.eq_nil_of_length_eq_zero hq
  subst this
  exact poly_Trim.l22 [] (by simp)
 |succ n ih =>
  intro q hq hb hf
  obtain⟨v,hv⟩:∃v,q[n]? = some v:=⟨_,List.getElem?_eq_getElem (by omega)⟩
  have hs:=snoc_of hv hq
  have hm:(q.map mkR)[n]? = some (mkR v):=by rw[List.getElem?_map,hv];rfl
  have hv1:=hf v (List.mem_of_getElem? hv)
  have sg:=CFr.Sign (mkR v) (fit_mkR hv1)
  rw[mkR_val] at sg
  have hl:(q.map mkR).length=n+1:=by rw[List.length_map];exact hq
  by_cases h0:v=0
  ·refine poly_Trim.l20 (q.map mkR) n (mkR v) _ n (by omega) (by unfold InI64;omega) (by omega) (by omega) hm sg (cmpR_eq.2 h0) (by omega) (by omega) ?_
   have:=ih (q.take n) (by rw[List.length_take];omega) (by omega) (fun x hx=>hf x (List.mem_of_mem_take hx))
   rw[List.map_take] at this
   rw[hs,h0,trimL_zero]
   rw[←hs.symm,←h0,←hs] at *
   exact this
  ·rw[hs,trimL_ne h0,←hs]
   exact poly_Trim.l21 (q.map mkR) n (mkR v) _ (by omega) (by unfold InI64;omega) (by omega) (by omega) hm sg (fun e=>h0 (cmpR_eq.1 e))
theorem Trim(l:List ARat)(hl:l.length≤1099511627776)(hf:FitP 274877906944 l):Contract prg 36 [polyPV l] (polyPV ((trimL (vals l)).map mkR)):=by
 have loop:∀(j t:Nat) (site:List ARat),l.length-t=j→t≤l.length→site=(l.take t).map (fun a=>mkR a.val)→poly_Trim.Loop1 site l t (polyPV ((trimL (vals l)).map mkR)):=by
  intro j
  induction j with
  |zero =>
   intro t site hj ht hs
   have hte:t=l.length:=by omega
   subst hte
   refine poly_Trim.l11 site l _ (Nat.le_refl _) ?_
   rw[List.take_of_length_le (Nat.le_refl _)] at hs
   have:=Trim2 (vals l).length (vals l) rfl (by unfold vals;rw[List.length_map];omega) (fl_vals hf (by omega))
   have e:site=(vals l).map mkR:=by rw[hs];unfold vals;rw[List.map_map];rfl
   rw[e];exact this
  |succ j ih =>
   intro t site hj ht hs
   obtain⟨v,hv⟩:∃v,l[t]? = some v:=⟨_,List.getElem?_eq_getElem (by omega)⟩
   have ha:=addZ v (hf v (List.mem_of_getElem? hv))
   have hsl:site.length=t:=by rw[hs,List.length_map,List.length_take];omega
   refine poly_Trim.l10 site l t v _ (by omega) hv ha (by simp;omega) (by omega) (ih (t+1) _ (by omega) (by omega) ?_)
   rw[hs,List.take_add_one,hv];simp
 exact poly_Trim.e0 l (loop _ 0 [] rfl (by omega) rfl)
theorem Check1:∀(j:Nat) (p:List ARat) (t:Nat),p.length-t=j→t≤p.length→p.length≤65→FitP 274877906944 p→(p.take t).all ARat.valid=true →
  (p.all ARat.valid=false→poly_Check.Loop1 p t (.iface 44 (vI 2)))∧(p.all ARat.valid=true→lastZ (vals p)=true→poly_Check.Loop1 p t (.iface 44 (vI 8)))∧(p.all ARat.valid=true→lastZ (vals p)=false→poly_Check.Loop1 p t .nilI):=by
 intro j
 induction j with
 |zero =>
  intro p t hj ht hl hf hv
  have hte:t=p.length:=by omega
  subst hte
  rw[List.take_of_length_le (Nat.le_refl _)] at hv
  refine⟨fun h => ?_,fun _ hz => ?_,fun _ hz => ?_⟩
  ·rw[hv] at h;cases h
  ·obtain⟨v,h0,h1,h2⟩:=lastZ_true hz
   have sg:=CFr.Sign v (hf v (List.mem_of_getElem? h1))
   exact poly_Check.l12 p _ (p.length-1) v _ (Nat.le_refl _) h0 (by unfold InI64;omega) (by omega) h1 sg (cmpR_eq.2 h2)
  ·by_cases h0:p.length=0
   ·exact poly_Check.l14 p _ (Nat.le_refl _) (by omega)
   ·obtain⟨v,h1,h2⟩:=lastZ_false hz h0
    have sg:=CFr.Sign v (hf v (List.mem_of_getElem? h1))
    exact poly_Check.l13 p _ (p.length-1) v _ (Nat.le_refl _) (by omega) (by unfold InI64;omega) (by omega) h1 sg (fun e=>h2 (cmpR_eq.1 e))
 |succ j ih =>
  intro p t hj ht hl hf hv
  obtain⟨v,h1⟩:∃v,p[t]? = some v:=⟨_,List.getElem?_eq_getElem (by omega)⟩
  have hva:=CFr.Valid v (hf v (List.mem_of_getElem? h1))
  cases hc:v.valid with
  |false =>
   have hall:p.all ARat.valid=false:=by
    rw[List.all_eq_false]
    exact⟨v,List.mem_of_getElem? h1,by rw[hc];simp⟩
   refine⟨fun _=>poly_Check.l10 p t v _ (by omega) h1 hva hc,fun h => ?_,fun h => ?_⟩
   ·rw[hall] at h;cases h
   ·rw[hall] at h;cases h
  |true =>
   obtain⟨g1,g2,g3⟩:=ih p (t+1) (by omega) (by omega) hl hf (by rw[List.take_add_one,h1];simp[hv,hc])
   exact⟨fun h=>poly_Check.l11 p t v _ (by omega) h1 hva hc (by omega) (g1 h),fun h h'=>poly_Check.l11 p t v _ (by omega) h1 hva hc (by omega) (g2 h h'),fun h h'=>poly_Check.l11 p t v _ (by omega) h1 hva hc (by omega) (g3 h h')⟩
theorem Check(p:List ARat)(hf:FitP 274877906944 p):Contract prg 55 [polyPV p] (errPV (errOf (chk p))):=by
 unfold chk
 by_cases hl:p.length≤65
 ·rw[if_neg (by omega)]
  obtain⟨g1,g2,g3⟩:=Check1 _ p 0 rfl (by omega) hl hf (by simp)
  cases hv:p.all ARat.valid with
  |false=>exact poly_Check.e1 p hl (g1 hv)
  |true =>
   cases hz:lastZ (vals p) with
   |true=>exact poly_Check.e1 p hl (g2 hv hz)
   |false=>exact poly_Check.e1 p hl (g3 hv hz)
 ·rw[if_pos (by omega)]
  exact poly_Check.e0 p (by omega)
theorem Eval1(p:List ARat)(x:ARat)(hl:p.length≤65)(hp:FitP 1073741824 p)(hx:x.num.length≤1073741824∧x.den.length≤1073741824):∀(n:Nat) (q:Rat),n≤p.length→q=evalL ((vals p).drop n) x.val →
  poly_Eval.Loop1 p ((n:Int)-1) x (mkR q) (.tup [(mkR (evalL (vals p) x.val)).pv,.nilI]):=by
 intro n
 induction n with
 |zero =>
  intro q _ hq
  rw[List.drop_zero] at hq
  rw[←hq]
  exact poly_Eval.l11 p _ x _ (by omega)
 |succ n ih =>
  intro q hn hq
  obtain⟨v,hv⟩:∃v,p[n]? = some v:=⟨_,List.getElem?_eq_getElem (by omega)⟩
  have hvf:=hp v (List.mem_of_getElem? hv)
  have b1:=ht_fit hvf.1 hvf.2 (by omega)
  have b2:=ht_fit hx.1 hx.2 (by omega)
  have b3:ht q≤65*2147483649+1:=by
   rw[hq]
   refine Nat.le_trans (ht_eval _ x.val 1073741824 (fun y hy=>fl_vals hp (by omega) y (List.mem_of_mem_drop hy)) b2) ?_
   have:((vals p).drop (n+1)).length≤65:=by unfold vals;simp;omega
   omega
  have m:=CFr.Mul (mkR q) x (fit_mkR (by omega)) ⟨by omega,by omega⟩
  rw[mkR_val] at m
  have b4:=ht_mul q x.val
  have s:=CFr.Add (mkR (q*x.val)) v (fit_mkR (by omega)) ⟨by omega,by omega⟩
  rw[mkR_val] at s
  have:=ih (q*x.val+v.val) (by omega) (by rw[hq,vals_drop hv];rfl)
  rw[show ((n+1:Nat):Int)-1=(n:Int) from by omega]
  exact poly_Eval.l10 p (n:Int) x _ _ n v _ (by omega) m rfl hv s (by unfold InI64;omega) this
theorem Eval(p:List ARat)(x:ARat)(hc:chk p=0)(hp:FitP 1073741824 p)(hx:x.num.length≤1073741824∧x.den.length≤1073741824):Contract prg 57 [polyPV p,x.pv] (.tup [(mkR (evalL (vals p) x.val)).pv,.nilI]):=by
 have hk:=Check p (fun a ha=>⟨by have:=(hp a ha).1;omega,by have:=(hp a ha).2;omega⟩)
 rw[hc] at hk
 have hl:=chk_len hc
 exact poly_Eval.e0 p x hk (by unfold InI64;omega) (Eval1 p x hl hp hx p.length 0 (Nat.le_refl _) (by rw[List.drop_of_length_le (by unfold vals;simp)];rfl))
theorem derive(p:List ARat)(hl:p.length≤65)(hp:FitP 137438953472 p):Contract prg 111 [polyPV p] (polyPV ((deriveL (vals p)).map mkR)):=by
 have loop:∀(j i:Nat) (site:List ARat),p.length-i=j→1≤i→site=(derI 1 (((vals p).take i).drop 1)).map mkR→poly_derive.Loop1 p site i (polyPV ((deriveL (vals p)).map mkR)):=by
  intro j
  induction j with
  |zero =>
   intro i site hj h1 hs
   rw[List.take_of_length_le (by unfold vals;rw[List.length_map];omega)] at hs
   have hfit:Fl 274877906944 (derI 1 ((vals p).drop 1)):=fl_derI (k:=137438953472) (by omega) _ 1 (by unfold vals;simp;omega) (fun y hy=>fl_vals hp (by omega) y (List.mem_of_mem_drop hy))
   have ht:=Trim site (by rw[hs,List.length_map,derI_len];unfold vals;simp;omega) (by rw[hs];exact fit_map hfit)
   rw[hs,vals_mkR] at ht
   rw[hs]
   exact poly_derive.l11 p _ i _ (by omega) ht
  |succ j ih =>
   intro i site hj h1 hs
   obtain⟨v,hv⟩:∃v,p[i]? = some v:=⟨_,List.getElem?_eq_getElem (by omega)⟩
   have hvf:=hp v (List.mem_of_getElem? hv)
   have ho:=CFr.Of (i:Int) (by unfold InI64;omega)
   have b1:ht ((i:Int):Rat)≤2:=by
    rw[ht_int]
    have:wl (i:Int)≤2:=wl_le (by omega)
    omega
   have m:=CFr.Mul (mkR ((i:Int):Rat)) v (fit_mkR (by omega)) ⟨by omega,by omega⟩
   rw[mkR_val] at m
   have hsl:site.length=i-1:=by rw[hs,List.length_map,derI_len];unfold vals;simp;omega
   refine poly_derive.l10 p site i _ v _ (by omega) ho hv m (by simp;omega) (by omega) (ih (i+1) _ (by omega) (by omega) ?_)
   rw[hs,derI_take hv h1]
   simp
 exact poly_derive.e0 p (loop _ 1 [] rfl (by omega) (by rw[show (((vals p).take 1).drop 1)=[] from by simp];rfl))
theorem Derive(p:List ARat)(hc:chk p=0)(hp:FitP 137438953472 p):Contract prg 64 [polyPV p] (.tup [polyPV ((deriveL (vals p)).map mkR),.nilI]):=by
 have hk:=Check p (fun a ha=>⟨by have:=(hp a ha).1;omega,by have:=(hp a ha).2;omega⟩)
 rw[hc] at hk
 exact poly_Derive.e0 p _ hk (derive p (chk_len hc) hp)
end CPo
end Go.Proofs.YtegpfcmnjhmhjaaGreat.Sym
namespace Go.Proofs.YtegpfcmnjhmhjaaGreat.Sym.Path
open Go
set_option maxRecDepth 20000
set_option linter.unusedVariables false
namespace linkworkref05_Check
@[reducible] noncomputable def fn:Func:=Tryz.f42
noncomputable def atK1:List Itm:=focus [0,2,0,0,2,1,2,0,0,2,0,0] [.code (bodyOf fn)]
def inv1(p:List ARat)(t_10:Nat):St:=⟨[(0,(.pv (polyPV p))),(8,(.pv (polyPV p))),(9,(eI (p.length:Int))),(10,(eI (t_10:Int)))],[]⟩
@[reducible] noncomputable def Loop1(p:List ARat)(t_10:Nat)(r:PV):Prop:=L prg fn atK1 (inv1 p t_10) r
theorem e0(p:List ARat)(h1:65<p.length):Contract prg 42 [(polyPV p)] (vI 4) :=
 Contract.ofL Tryz.func42 (by kernel_rfl) (L.done mixed tabOk (n:=84) (ns:=[1,1]) (tr:=[.reg [],.reg [.none,(iI (p.length:Int))],.dec true,.reg []]) (cj (o_len ARat.cells p) (cj (dltN_t h1) True.intro)) (by kernel_rfl))
theorem e1(p:List ARat){r:PV}(h1:p.length≤65)(hL:Loop1 p 0 r):Contract prg 42 [(polyPV p)] r :=
 Contract.ofL Tryz.func42 (by kernel_rfl) (L.go mixed tabOk (n:=96) (ns:=[1,1,1]) (tr:=[.reg [],.reg [.none,(iI (p.length:Int))],.dec false,.reg [.none,(iI (p.length:Int))],.keep [0,8,9,10]]) (cj (o_len ARat.cells p) (cj (dltN_f h1) (cj (o_len ARat.cells p) True.intro))) (by kernel_rfl) hL)
theorem l10(p:List ARat)(t_10:Nat)(v:ARat)(val:Bool)(h1:t_10<p.length)(h2:p[t_10]? = some v)(h3:Contract prg 11 [v.pv] (vB val))(h4:val=false):Loop1 p t_10 (vI 2) :=
 L.done mixed tabOk (n:=141) (ns:=[1,3,1,1]) (tr:=[.auto,.reg [],.dec true,.reg [(.row t_10 (ARat.cells v))],.reg [.none,(.pv (vB val))],.dec true,.reg []]) (cj (dltN_t h1) (cj (o_at ARat.cells (Eq.refl (((t_10:Nat):Int):Int)) h2) (cj h3 (cj (bnot_t h4) True.intro)))) (by kernel_rfl)
theorem l11(p:List ARat)(t_10:Nat)(v:ARat)(val:Bool){r:PV}(h1:t_10<p.length)(h2:p[t_10]? = some v)(h3:Contract prg 11 [v.pv] (vB val))(h4:val=true)(h5:(t_10+1)<9223372036854775808)(hL:Loop1 p (t_10+1) r):Loop1 p t_10 r :=
 L.go mixed tabOk (n:=144) (ns:=[1,3,1,1,1]) (tr:=[.auto,.reg [],.dec true,.reg [(.row t_10 (ARat.cells v))],.reg [.none,(.pv (vB val))],.dec false,.reg [(iI (((t_10+1):Nat):Int))],.keep [0,8,9,10],.drop [4]]) (cj (dltN_t h1) (cj (o_at ARat.cells (Eq.refl (((t_10:Nat):Int):Int)) h2) (cj h3 (cj (bnot_f h4) (cj (bs_addN h5) True.intro))))) (by kernel_rfl) hL
theorem l12(p:List ARat)(t_10 k:Nat)(v:ARat)(sig:Int)(h1:p.length≤t_10)(h2:0<p.length)(h3:InI64 ((p.length:Int)-1))(h4:((p.length:Int)-1)=(k:Int))(h5:p[k]? = some v)(h6:Contract prg 39 [v.pv] (vI sig))(h7:sig=0):Loop1 p t_10 (vI 8) :=
 L.done mixed tabOk (n:=141) (ns:=[1,1,1,1,1,1,1,1,1,3,1,1,1,1,1,1]) (tr:=[.auto,.reg [],.dec false,.reg [.none,(iI (p.length:Int)),.none,.none,.none,.none,(iI (p.length:Int)),(iI ((p.length:Int)-1)),(.row k (ARat.cells v)),.none,(.pv (vI sig)),.none,(.dec true)],.dec true,.reg []]) (cj (dltN_f h1) (cj (o_len ARat.cells p) (cj (dltN_t h2) (cj (dltN_t h2) (cj (dltN_t h2) (cj (o_len ARat.cells p) (cj (dltN_t h2) (cj (bs_sub h3) (cj (dltN_t h2) (cj (o_at ARat.cells h4 h5) (cj (dltN_t h2) (cj (dltN_t h2) (cj h6 (cj (dltN_t h2) (cj (dltN_t h2) (cj (deq_t h7) True.intro)))))))))))))))) (by kernel_rfl)
theorem l13(p:List ARat)(t_10 k:Nat)(v:ARat)(sig:Int)(h1:p.length≤t_10)(h2:0<p.length)(h3:InI64 ((p.length:Int)-1))(h4:((p.length:Int)-1)=(k:Int))(h5:p[k]? = some v)(h6:Contract prg 39 [v.pv] (vI sig))(h7:sig≠0):Loop1 p t_10 (vI 0) :=
 L.done mixed tabOk (n:=144) (ns:=[1,1,1,1,1,1,1,1,1,3,1,1,1,1,1,1]) (tr:=[.auto,.reg [],.dec false,.reg [.none,(iI (p.length:Int)),.none,.none,.none,.none,(iI (p.length:Int)),(iI ((p.length:Int)-1)),(.row k (ARat.cells v)),.none,(.pv (vI sig)),.none,(.dec true)],.dec false,.reg []]) (cj (dltN_f h1) (cj (o_len ARat.cells p) (cj (dltN_t h2) (cj (dltN_t h2) (cj (dltN_t h2) (cj (o_len ARat.cells p) (cj (dltN_t h2) (cj (bs_sub h3) (cj (dltN_t h2) (cj (o_at ARat.cells h4 h5) (cj (dltN_t h2) (cj (dltN_t h2) (cj h6 (cj (dltN_t h2) (cj (dltN_t h2) (cj (deq_f h7) True.intro)))))))))))))))) (by kernel_rfl)
theorem l14(p:List ARat)(t_10:Nat)(h1:p.length≤t_10)(h2:p.length≤0):Loop1 p t_10 (vI 0) :=
 L.done mixed tabOk (n:=144) (ns:=[1,1,1,1,1,1,1,1,1,1,1]) (tr:=[.auto,.reg [],.dec false,.reg [.none,(iI (p.length:Int)),.none,.none,.skip,.skip,.skip,.skip,.skip,.skip,.skip,.skip,(.dec false)],.auto,.reg []]) (cj (dltN_f h1) (cj (o_len ARat.cells p) (cj (dltN_f h2) (cj (dltN_f h2) (cj (dltN_f h2) (cj (dltN_f h2) (cj (dltN_f h2) (cj (dltN_f h2) (cj (dltN_f h2) (cj (dltN_f h2) (cj (dltN_f h2) True.intro))))))))))) (by kernel_rfl)
end linkworkref05_Check
end Go.Proofs.YtegpfcmnjhmhjaaGreat.Sym.Path
namespace Go.Proofs.YtegpfcmnjhmhjaaGreat.Sym
open Go Path CInt
set_option linter.unusedVariables false
namespace CRe
theorem Check1:∀(j:Nat) (p:List ARat) (t:Nat),p.length-t=j→t≤p.length→p.length≤65→FitP 274877906944 p→(p.take t).all ARat.valid=true →
  (p.all ARat.valid=false→linkworkref05_Check.Loop1 p t (vI 2))∧(p.all ARat.valid=true→lastZ (vals p)=true→linkworkref05_Check.Loop1 p t (vI 8))∧(p.all ARat.valid=true→lastZ (vals p)=false→linkworkref05_Check.Loop1 p t (vI 0)):=by
 intro j
 induction j with
 |zero =>
  intro p t hj ht hl hf hv
  have hte:t=p.length:=by omega
  subst hte
  rw[List.take_of_length_le (Nat.le_refl _)] at hv
  refine⟨fun h => ?_,fun _ hz => ?_,fun _ hz => ?_⟩
  ·rw[hv] at h;cases h
  ·obtain⟨v,h0,h1,h2⟩:=lastZ_true hz
   have sg:=CRb.Sign v (hf v (List.mem_of_getElem? h1))
   exact linkworkref05_Check.l12 p _ (p.length-1) v _ (Nat.le_refl _) h0 (by unfold InI64;omega) (by omega) h1 sg (cmpR_eq.2 h2)
  ·by_cases h0:p.length=0
   ·exact linkworkref05_Check.l14 p _ (Nat.le_refl _) (by omega)
   ·obtain⟨v,h1,h2⟩:=lastZ_false hz h0
    have sg:=CRb.Sign v (hf v (List.mem_of_getElem? h1))
    exact linkworkref05_Check.l13 p _ (p.length-1) v _ (Nat.le_refl _) (by omega) (by unfold InI64;omega) (by omega) h1 sg (fun e=>h2 (cmpR_eq.1 e))
 |succ j ih =>
  intro p t hj ht hl hf hv
  obtain⟨v,h1⟩:∃v,p[t]? = some v:=⟨_,List.getElem?_eq_getElem (by omega)⟩
  have hva:=CRb.Valid v (hf v (List.mem_of_getElem? h1))
  cases hc:v.valid with
  |false =>
   have hall:p.all ARat.valid=false:=by
    rw[List.all_eq_false]
    exact⟨v,List.mem_of_getElem? h1,by rw[hc];simp⟩
   refine⟨fun _=>linkworkref05_Check.l10 p t v _ (by omega) h1 hva hc,fun h => ?_,fun h => ?_⟩
   ·rw[hall] at h;cases h
   ·rw[hall] at h;cases h
  |true =>
   obtain⟨g1,g2,g3⟩:=ih p (t+1) (by omega) (by omega) hl hf (by rw[List.take_add_one,h1];simp[hv,hc])
   exact⟨fun h=>linkworkref05_Check.l11 p t v _ (by omega) h1 hva hc (by omega) (g1 h),fun h h'=>linkworkref05_Check.l11 p t v _ (by omega) h1 hva hc (by omega) (g2 h h'),fun h h'=>linkworkref05_Check.l11 p t v _ (by omega) h1 hva hc (by omega) (g3 h h')⟩
theorem Check(p:List ARat)(hf:FitP 274877906944 p):Contract prg 42 [polyPV p] (vI (chk p)):=by
 unfold chk
 by_cases hl:p.length≤65
 ·rw[if_neg (by omega)]
  obtain⟨g1,g2,g3⟩:=Check1 _ p 0 rfl (by omega) hl hf (by simp)
  cases hv:p.all ARat.valid with
  |false=>exact linkworkref05_Check.e1 p hl (g1 hv)
  |true =>
   cases hz:lastZ (vals p) with
   |true=>exact linkworkref05_Check.e1 p hl (g2 hv hz)
   |false=>exact linkworkref05_Check.e1 p hl (g3 hv hz)
 ·rw[if_pos (by omega)]
  exact linkworkref05_Check.e0 p (by omega)
end CRe
end Go.Proofs.YtegpfcmnjhmhjaaGreat.Sym
namespace Go.Proofs.YtegpfcmnjhmhjaaGreat.Sym
open Go Path CInt
set_option linter.unusedVariables false
theorem cmpR_ge{p q:Rat} : 0≤cmpR p q↔q≤p:=by
 constructor
 ·intro h
  have:¬p<q:=fun e=>by have:=cmpR_lt.2 e;omega
  grind
 ·intro h
  refine Int.not_lt.1 fun e => ?_
  have:=cmpR_lt.1 e
  grind
theorem cmpR_le{p q:Rat} : cmpR p q≤0↔p≤q:=by
 constructor
 ·intro h
  have:¬q<p:=fun e=>by have:=cmpR_gt.2 e;omega
  grind
 ·intro h
  refine Int.not_lt.1 fun e => ?_
  have:=cmpR_gt.1 e
  grind
theorem drop_cons{α:Type}{l:List α}{t:Nat}{v:α}(h:l[t]? = some v):l.drop t=v::l.drop (t+1):=by
 obtain⟨h1,h2⟩:=List.getElem?_eq_some_iff.1 h
 rw[List.drop_eq_getElem_cons h1,h2]
namespace QF
theorem Add(p q:Rat)(hp:ht p≤68719476736)(hq:ht q≤68719476736):Contract prg 19 [(mkR p).pv,(mkR q).pv] (mkR (p+q)).pv:=by
 have h:=CFr.Add (mkR p) (mkR q) ⟨by have:=(fit_mkRk hp).1;omega,by have:=(fit_mkRk hp).2;omega⟩ ⟨by have:=(fit_mkRk hq).1;omega,by have:=(fit_mkRk hq).2;omega⟩
 rwa[mkR_val,mkR_val] at h
theorem Sub(p q:Rat)(hp:ht p≤68719476736)(hq:ht q≤68719476736):Contract prg 34 [(mkR p).pv,(mkR q).pv] (mkR (p-q)).pv:=by
 have h:=CFr.Sub (mkR p) (mkR q) ⟨by have:=(fit_mkRk hp).1;omega,by have:=(fit_mkRk hp).2;omega⟩ ⟨by have:=(fit_mkRk hq).1;omega,by have:=(fit_mkRk hq).2;omega⟩
 rwa[mkR_val,mkR_val] at h
theorem Mul(p q:Rat)(hp:ht p≤68719476736)(hq:ht q≤68719476736):Contract prg 69 [(mkR p).pv,(mkR q).pv] (mkR (p*q)).pv:=by
 have h:=CFr.Mul (mkR p) (mkR q) ⟨by have:=(fit_mkRk hp).1;omega,by have:=(fit_mkRk hp).2;omega⟩ ⟨by have:=(fit_mkRk hq).1;omega,by have:=(fit_mkRk hq).2;omega⟩
 rwa[mkR_val,mkR_val] at h
theorem Cmp(p q:Rat)(hp:ht p≤68719476736)(hq:ht q≤68719476736):Contract prg 32 [(mkR p).pv,(mkR q).pv] (vI (cmpR p q)):=by
 have h:=CFr.Cmp (mkR p) (mkR q) ⟨by have:=(fit_mkRk hp).1;omega,by have:=(fit_mkRk hp).2;omega⟩ ⟨by have:=(fit_mkRk hq).1;omega,by have:=(fit_mkRk hq).2;omega⟩
 rwa[mkR_val,mkR_val] at h
end QF
end Go.Proofs.YtegpfcmnjhmhjaaGreat.Sym
namespace Go.Proofs.YtegpfcmnjhmhjaaGreat.Sym.Path
open Go
set_option maxRecDepth 20000
set_option linter.unusedVariables false
namespace linkworkbase_Num
theorem e0   : Contract prg 13 [.nilI] (vI 0) :=
 Contract.ofL Tryz.func13 (by kernel_rfl) (L.done mixed tabOk (n:=84) (ns:=[]) (tr:=[.reg [],.reg [],.auto,.reg []]) True.intro (by kernel_rfl))
theorem e1 (e : Int)  : Contract prg 13 [(.iface 44 (vI e))] (vI e) :=
 Contract.ofL Tryz.func13 (by kernel_rfl) (L.done mixed tabOk (n:=108) (ns:=[]) (tr:=[.reg [],.reg [],.auto,.reg [],.reg [],.auto,.reg []]) True.intro (by kernel_rfl))
end linkworkbase_Num
namespace linkworkbase_Is
theorem e0(e:Option Int)(code num:Int)(h1:Contract prg 13 [(errPV e)] (vI num)):Contract prg 17 [(errPV e),(vI code)] (vB (num==code)) :=
 Contract.ofL Tryz.func17 (by kernel_rfl) (L.done mixed tabOk (n:=72) (ns:=[1]) (tr:=[.reg [],.reg [.none,(.pv (vI num))]]) (cj h1 True.intro) (by kernel_rfl))
end linkworkbase_Is
namespace linkworkbase_Rat
theorem e0(a b:ARat)(wor wor1:Bool)(h1:a.neg=b.neg)(h2:Contract prg 62 [(wordsPV a.num),(wordsPV b.num)] (vB wor))(h3:wor=true)(h4:Contract prg 62 [(wordsPV a.den),(wordsPV b.den)] (vB wor1)):Contract prg 20 [a.pv,b.pv] (vB wor1) :=
 Contract.ofL Tryz.func20 (by kernel_rfl) (L.done mixed tabOk (n:=72) (ns:=[1,1,1,1,1,1,1,1,1,1,1,1,1,1]) (tr:=[.reg [],.reg [.none,.none,.none,.none,.none,.none,.none,.none,.none,.none,(.pv (vB wor)),(.dec true),.none,.none,.none,.none,.none,(.pv (vB wor1)),(.dec true)]]) (cj (beq_t h1) (cj (beq_t h1) (cj (beq_t h1) (cj (beq_t h1) (cj (beq_t h1) (cj h2 (cj (beq_t h1) (cj h3 (cj h3 (cj h3 (cj h3 (cj h3 (cj h4 (cj h3 True.intro)))))))))))))) (by kernel_rfl))
theorem e1(a b:ARat)(wor:Bool)(h1:a.neg=b.neg)(h2:Contract prg 62 [(wordsPV a.num),(wordsPV b.num)] (vB wor))(h3:wor=false):Contract prg 20 [a.pv,b.pv] (vB false) :=
 Contract.ofL Tryz.func20 (by kernel_rfl) (L.done mixed tabOk (n:=72) (ns:=[1,1,1,1,1,1,1,1,1,1,1,1,1]) (tr:=[.reg [],.reg [.none,.none,.none,.none,.none,.none,.none,.none,.none,.none,(.pv (vB wor)),(.dec true),.none,.skip,.skip,.skip,.skip,.skip,(.dec false)]]) (cj (beq_t h1) (cj (beq_t h1) (cj (beq_t h1) (cj (beq_t h1) (cj (beq_t h1) (cj h2 (cj (beq_t h1) (cj h3 (cj h3 (cj h3 (cj h3 (cj h3 (cj h3 True.intro))))))))))))) (by kernel_rfl))
theorem e2(a b:ARat)(h1:a.neg≠b.neg):Contract prg 20 [a.pv,b.pv] (vB false) :=
 Contract.ofL Tryz.func20 (by kernel_rfl) (L.done mixed tabOk (n:=72) (ns:=[1,1,1,1,1,1,1,1,1,1,1]) (tr:=[.reg [],.reg [.none,.none,.none,.none,.none,.none,.skip,.skip,.skip,.skip,.skip,(.dec false),.none,.skip,.skip,.skip,.skip,.skip]]) (cj (beq_f h1) (cj (beq_f h1) (cj (beq_f h1) (cj (beq_f h1) (cj (beq_f h1) (cj (beq_f h1) (cj (Eq.refl false) (cj (Eq.refl false) (cj (Eq.refl false) (cj (Eq.refl false) (cj (Eq.refl false) True.intro))))))))))) (by kernel_rfl))
end linkworkbase_Rat
namespace linkworkbase_Rats
@[reducible] noncomputable def fn:Func:=Tryz.f27
noncomputable def atK1:List Itm:=focus [0,2,0,0,2,1,2,0,0,2,0,0] [.code (bodyOf fn)]
def inv1(a b:List ARat)(i_5:Nat):St:=⟨[(0,(.pv (polyPV a))),(1,(.pv (polyPV b))),(5,(eI (i_5:Int)))],[]⟩
@[reducible] noncomputable def Loop1(a b:List ARat)(i_5:Nat)(r:PV):Prop:=L prg fn atK1 (inv1 a b i_5) r
theorem e0(a b:List ARat)(h1:a.length≠b.length):Contract prg 27 [(polyPV a),(polyPV b)] (vB false) :=
 Contract.ofL Tryz.func27 (by kernel_rfl) (L.done mixed tabOk (n:=84) (ns:=[1,1,1]) (tr:=[.reg [],.reg [.none,(iI (a.length:Int)),.none,(iI (b.length:Int))],.dec true,.reg []]) (cj (o_len ARat.cells a) (cj (o_len ARat.cells b) (cj (dneN_t h1) True.intro))) (by kernel_rfl))
theorem e1(a b:List ARat){r:PV}(h1:a.length=b.length)(hL:Loop1 a b 0 r):Contract prg 27 [(polyPV a),(polyPV b)] r :=
 Contract.ofL Tryz.func27 (by kernel_rfl) (L.go mixed tabOk (n:=96) (ns:=[1,1,1]) (tr:=[.reg [],.reg [.none,(iI (a.length:Int)),.none,(iI (b.length:Int))],.dec false,.reg [],.keep [0,1,5]]) (cj (o_len ARat.cells a) (cj (o_len ARat.cells b) (cj (dneN_f h1) True.intro))) (by kernel_rfl) hL)
theorem l10(a b:List ARat)(i_5:Nat)(v v1:ARat)(rat:Bool)(h1:i_5<a.length)(h2:a[i_5]? = some v)(h3:b[i_5]? = some v1)(h4:Contract prg 20 [v.pv,v1.pv] (vB rat))(h5:rat=false):Loop1 a b i_5 (vB false) :=
 L.done mixed tabOk (n:=135) (ns:=[1,1,3,3,1,1]) (tr:=[.auto,.reg [.none,.none,(iI (a.length:Int))],.dec true,dr 10 0 [.none,.none,(.row i_5 (ARat.cells v)),.none,.none,.none,(.row i_5 (ARat.cells v1)),.none,(.pv (vB rat))],.dec true,.reg []]) (cj (o_len ARat.cells a) (cj (dltN_t h1) (cj (o_at ARat.cells (Eq.refl (((i_5:Nat):Int):Int)) h2) (cj (o_at ARat.cells (Eq.refl (((i_5:Nat):Int):Int)) h3) (cj h4 (cj (bnot_t h5) True.intro)))))) (by kernel_rfl)
theorem l11(a b:List ARat)(i_5:Nat)(v v1:ARat)(rat:Bool){r:PV}(h1:i_5<a.length)(h2:a[i_5]? = some v)(h3:b[i_5]? = some v1)(h4:Contract prg 20 [v.pv,v1.pv] (vB rat))(h5:rat=true)(h6:(i_5+1)<9223372036854775808)(hL:Loop1 a b (i_5+1) r):Loop1 a b i_5 r :=
 L.go mixed tabOk (n:=138) (ns:=[1,1,3,3,1,1,1]) (tr:=[.auto,.reg [.none,.none,(iI (a.length:Int))],.dec true,dr 10 0 [.none,.none,(.row i_5 (ARat.cells v)),.none,.none,.none,(.row i_5 (ARat.cells v1)),.none,(.pv (vB rat))],.dec false,.reg [.none,(iI (((i_5+1):Nat):Int))],.keep [0,1,5]]) (cj (o_len ARat.cells a) (cj (dltN_t h1) (cj (o_at ARat.cells (Eq.refl (((i_5:Nat):Int):Int)) h2) (cj (o_at ARat.cells (Eq.refl (((i_5:Nat):Int):Int)) h3) (cj h4 (cj (bnot_f h5) (cj (bs_addN h6) True.intro))))))) (by kernel_rfl) hL
theorem l12(a b:List ARat)(i_5:Nat)(h1:a.length≤i_5):Loop1 a b i_5 (vB true) :=
 L.done mixed tabOk (n:=129) (ns:=[1,1]) (tr:=[.auto,.reg [.none,.none,(iI (a.length:Int))],.dec false,.reg []]) (cj (o_len ARat.cells a) (cj (dltN_f h1) True.intro)) (by kernel_rfl)
end linkworkbase_Rats
namespace linkworkbase_Words
@[reducible] noncomputable def fn:Func:=Tryz.f62
noncomputable def atK1:List Itm:=focus [0,2,0,0,2,1,2,0,0,2,0,0] [.code (bodyOf fn)]
def inv1(a b:List UInt32)(i_5:Nat):St:=⟨[(0,(.pv (wordsPV a))),(1,(.pv (wordsPV b))),(5,(eI (i_5:Int)))],[]⟩
@[reducible] noncomputable def Loop1(a b:List UInt32)(i_5:Nat)(r:PV):Prop:=L prg fn atK1 (inv1 a b i_5) r
theorem e0(a b:List UInt32)(h1:a.length≠b.length):Contract prg 62 [(wordsPV a),(wordsPV b)] (vB false) :=
 Contract.ofL Tryz.func62 (by kernel_rfl) (L.done mixed tabOk (n:=84) (ns:=[1,1,1]) (tr:=[.reg [],.reg [.none,(iI (a.length:Int)),.none,(iI (b.length:Int))],.dec true,.reg []]) (cj (o_len wordPV a) (cj (o_len wordPV b) (cj (dneN_t h1) True.intro))) (by kernel_rfl))
theorem e1(a b:List UInt32){r:PV}(h1:a.length=b.length)(hL:Loop1 a b 0 r):Contract prg 62 [(wordsPV a),(wordsPV b)] r :=
 Contract.ofL Tryz.func62 (by kernel_rfl) (L.go mixed tabOk (n:=96) (ns:=[1,1,1]) (tr:=[.reg [],.reg [.none,(iI (a.length:Int)),.none,(iI (b.length:Int))],.dec false,.reg [],.keep [0,1,5]]) (cj (o_len wordPV a) (cj (o_len wordPV b) (cj (dneN_f h1) True.intro))) (by kernel_rfl) hL)
theorem l10(a b:List UInt32)(i_5:Nat)(v v1:UInt32)(h1:i_5<a.length)(h2:a[i_5]? = some v)(h3:b[i_5]? = some v1)(h4:v.toNat≠v1.toNat):Loop1 a b i_5 (vB false) :=
 L.done mixed tabOk (n:=135) (ns:=[1,1,3,3,1]) (tr:=[.auto,.reg [.none,.none,(iI (a.length:Int))],.dec true,dr 9 0 [.none,.none,(.row i_5 (wordPV v)),.none,.none,.none,(.row i_5 (wordPV v1))],.dec true,.reg []]) (cj (o_len wordPV a) (cj (dltN_t h1) (cj (o_at wordPV (Eq.refl (((i_5:Nat):Int):Int)) h2) (cj (o_at wordPV (Eq.refl (((i_5:Nat):Int):Int)) h3) (cj (dneN_t h4) True.intro))))) (by kernel_rfl)
theorem l11(a b:List UInt32)(i_5:Nat)(v v1:UInt32){r:PV}(h1:i_5<a.length)(h2:a[i_5]? = some v)(h3:b[i_5]? = some v1)(h4:v.toNat=v1.toNat)(h5:(i_5+1)<9223372036854775808)(hL:Loop1 a b (i_5+1) r):Loop1 a b i_5 r :=
 L.go mixed tabOk (n:=138) (ns:=[1,1,3,3,1,1]) (tr:=[.auto,.reg [.none,.none,(iI (a.length:Int))],.dec true,dr 9 0 [.none,.none,(.row i_5 (wordPV v)),.none,.none,.none,(.row i_5 (wordPV v1))],.dec false,.reg [.none,(iI (((i_5+1):Nat):Int))],.keep [0,1,5]]) (cj (o_len wordPV a) (cj (dltN_t h1) (cj (o_at wordPV (Eq.refl (((i_5:Nat):Int):Int)) h2) (cj (o_at wordPV (Eq.refl (((i_5:Nat):Int):Int)) h3) (cj (dneN_f h4) (cj (bs_addN h5) True.intro)))))) (by kernel_rfl) hL
theorem l12(a b:List UInt32)(i_5:Nat)(h1:a.length≤i_5):Loop1 a b i_5 (vB true) :=
 L.done mixed tabOk (n:=129) (ns:=[1,1]) (tr:=[.auto,.reg [.none,.none,(iI (a.length:Int))],.dec false,.reg []]) (cj (o_len wordPV a) (cj (dltN_f h1) True.intro)) (by kernel_rfl)
end linkworkbase_Words
end Go.Proofs.YtegpfcmnjhmhjaaGreat.Sym.Path
namespace Go.Proofs.YtegpfcmnjhmhjaaGreat.Sym
open Go Path CInt
set_option linter.unusedVariables false
def eqR(a b:ARat):Bool:=decide (a.neg=b.neg)&&(decide (a.num=b.num)&&decide (a.den=b.den))
theorem eqR_iff{a b:ARat} : eqR a b=true↔a=b:=by
 obtain⟨n,m,d⟩:=a
 obtain⟨n',m',d'⟩:=b
 unfold eqR
 simp only[Bool.and_eq_true,decide_eq_true_eq,ARat.mk.injEq]
theorem eqR_self(a:ARat):eqR a a=true:=eqR_iff.2 rfl
def eqRs:List ARat→List ARat→Bool
 |[],[]=>true
 |a::r,b::s=>eqR a b&&eqRs r s
 |_,_=>false
theorem eqRs_iff:∀{p q:List ARat},eqRs p q=true↔p=q
 |[],[]=>by simp[eqRs]
 |a::r,b::s=>by
  show(eqR a b&&eqRs r s)=true↔_
  rw[Bool.and_eq_true,eqR_iff,eqRs_iff,List.cons.injEq]
 |[],b::s=>by simp[eqRs]
 |a::r,[]=>by simp[eqRs]
theorem eqRs_self(p:List ARat):eqRs p p=true:=eqRs_iff.2 rfl
theorem eqRs_ne{p q:List ARat}(h:p≠q):eqRs p q=false:=by
 cases hb:eqRs p q with
 |true=>exact absurd (eqRs_iff.1 hb) h
 |false=>rfl
namespace CBa
theorem Words(a b:Sym.Words)(hl:a.length<9223372036854775807):Contract prg 62 [wordsPV a,wordsPV b] (vB (decide (a=b))):=by
 by_cases h:a.length=b.length
 ·have loop:∀(j t:Nat),a.length-t=j→t≤a.length→a.take t=b.take t→linkworkbase_Words.Loop1 a b t (vB (decide (a=b))):=by
   intro j
   induction j with
   |zero =>
    intro t hj ht he
    rw[List.take_of_length_le (by omega),List.take_of_length_le (by omega)] at he
    rw[decide_eq_true he]
    exact linkworkbase_Words.l12 a b t (by omega)
   |succ j ih =>
    intro t hj ht he
    obtain⟨v,hv⟩:∃v,a[t]? = some v:=⟨_,List.getElem?_eq_getElem (by omega)⟩
    obtain⟨w,hw⟩:∃w,b[t]? = some w:=⟨_,List.getElem?_eq_getElem (by omega)⟩
    by_cases h0:v.toNat=w.toNat
    ·exact linkworkbase_Words.l11 a b t v w (by omega) hv hw h0 (by omega) (ih (t+1) (by omega) (by omega) (by rw[List.take_add_one,List.take_add_one,he,hv,hw,w_eq h0]))
    ·have hne:a≠b:=by
      intro e;subst e
      rw[hv] at hw;injection hw with hw
      exact h0 (by rw[hw])
     rw[decide_eq_false hne]
     exact linkworkbase_Words.l10 a b t v w (by omega) hv hw h0
  exact linkworkbase_Words.e1 a b h (loop _ 0 rfl (by omega) rfl)
 ·rw[decide_eq_false (fun e=>h (by rw[e]))]
  exact linkworkbase_Words.e0 a b h
theorem Rat(a b:ARat)(h1:a.num.length<9223372036854775807)(h2:a.den.length<9223372036854775807):Contract prg 20 [a.pv,b.pv] (vB (eqR a b)):=by
 unfold eqR
 by_cases hn:a.neg=b.neg
 ·rw[decide_eq_true hn,Bool.true_and]
  have w1:=Words a.num b.num h1
  have w2:=Words a.den b.den h2
  cases hw:decide (a.num=b.num) with
  |true=>rw[Bool.true_and];rw[hw] at w1;exact linkworkbase_Rat.e0 a b _ _ hn w1 rfl w2
  |false=>rw[Bool.false_and];rw[hw] at w1;exact linkworkbase_Rat.e1 a b _ hn w1 rfl
 ·rw[decide_eq_false hn,Bool.false_and]
  exact linkworkbase_Rat.e2 a b hn
theorem Rats(p q:List ARat)(hl:p.length<9223372036854775807)(hf:∀a∈p,a.num.length<9223372036854775807∧a.den.length<9223372036854775807):Contract prg 27 [polyPV p,polyPV q] (vB (eqRs p q)):=by
 by_cases h:p.length=q.length
 ·have loop:∀(j t:Nat),p.length-t=j→t≤p.length→p.take t=q.take t→linkworkbase_Rats.Loop1 p q t (vB (eqRs p q)):=by
   intro j
   induction j with
   |zero =>
    intro t hj ht he
    rw[List.take_of_length_le (by omega),List.take_of_length_le (by omega)] at he
    rw[eqRs_iff.2 he]
    exact linkworkbase_Rats.l12 p q t (by omega)
   |succ j ih =>
    intro t hj ht he
    obtain⟨v,hv⟩:∃v,p[t]? = some v:=⟨_,List.getElem?_eq_getElem (by omega)⟩
    obtain⟨w,hw⟩:∃w,q[t]? = some w:=⟨_,List.getElem?_eq_getElem (by omega)⟩
    have hvf:=hf v (List.mem_of_getElem? hv)
    have hr:=Rat v w hvf.1 hvf.2
    cases h0:eqR v w with
    |true =>
     rw[h0] at hr
     exact linkworkbase_Rats.l11 p q t v w _ (by omega) hv hw hr rfl (by omega) (ih (t+1) (by omega) (by omega) (by rw[List.take_add_one,List.take_add_one,he,hv,hw,eqR_iff.1 h0]))
    |false =>
     have hne:p≠q:=by
      intro e;subst e
      rw[hv] at hw;injection hw with hw
      rw[hw,eqR_self] at h0;cases h0
     rw[eqRs_ne hne]
     rw[h0] at hr
     exact linkworkbase_Rats.l10 p q t v w _ (by omega) hv hw hr rfl
  exact linkworkbase_Rats.e1 p q h (loop _ 0 rfl (by omega) rfl)
 ·rw[eqRs_ne (fun e=>h (by rw[e]))]
  exact linkworkbase_Rats.e0 p q h
theorem Num(e:Option Int):Contract prg 13 [errPV e] (vI (e.getD 0)):=by
 cases e with
 |none=>exact linkworkbase_Num.e0
 |some n=>exact linkworkbase_Num.e1 n
theorem Is(e:Option Int)(code:Int):Contract prg 17 [errPV e,vI code] (vB (e.getD 0==code)):=linkworkbase_Is.e0 e code _ (Num e)
end CBa
end Go.Proofs.YtegpfcmnjhmhjaaGreat.Sym
namespace Go.Proofs.YtegpfcmnjhmhjaaGreat.Sym
open Go Path CInt
set_option linter.unusedVariables false
def badB(p:Option Rat)(v:Rat):Bool:=match p with
 |none=>decide (v≠0)
 |some q=>decide (v≤q)
def outB(b:ARat):Bool := !b.valid||(decide (b.val<0)||decide (1≤b.val))
def chkB:Option Rat→List ARat→Int
 |_,[]=>0
 |p,b::r=>bif outB b then 3 else bif badB p b.val then 12 else chkB (some b.val) r
def chkP:List (List ARat)→Int
 |[]=>0
 |p::r=>bif decide (chk p≠0) then chk p else bif Nat.blt 9 p.length then 4 else chkP r
def chkR(p:Option Rat)(bs:List ARat)(ps:List (List ARat)):Int:=bif decide (chkB p bs≠0) then chkB p bs else chkP ps
def chkLaw(l:ALaw):Int:=if l.breaks.length=0∨l.breaks.length≠l.pieces.length then 10 else if 16<l.breaks.length then 4 else chkR none l.breaks l.pieces
abbrev FitW(k:Nat)(l:ALaw):Prop:=FitP k l.breaks∧∀p∈l.pieces,FitP k p
theorem chkR_stop{p:Option Rat}{bs:List ARat}{ps:List (List ARat)}{n:Int}(h:chkB p bs=n)(h0:n≠0):chkR p bs ps=n:=by
 unfold chkR;rw[h,decide_eq_true h0];rfl
theorem chkR_nil{p:Option Rat}{ps:List (List ARat)} : chkR p [] ps=chkP ps:=rfl
theorem chkR_cons{p:Option Rat}{b:ARat}{r:List ARat}{ps:List (List ARat)}(h1:outB b=false)(h2:badB p b.val=false):chkR p (b::r) ps=chkR (some b.val) r ps:=by
 unfold chkR
 rw[show chkB p (b::r)=chkB (some b.val) r from by rw[chkB,h1,h2];rfl]
theorem chkB_out{p:Option Rat}{b:ARat}{r:List ARat}(h1:outB b=true):chkB p (b::r)=3:=by rw[chkB,h1];rfl
theorem chkB_bad{p:Option Rat}{b:ARat}{r:List ARat}(h1:outB b=false)(h2:badB p b.val=true):chkB p (b::r)=12:=by rw[chkB,h1,h2];rfl
theorem outB_inv{b:ARat}(h:b.valid=false):outB b=true:=by unfold outB;rw[h];rfl
theorem outB_lt{b:ARat}(h:b.val<0):outB b=true:=by unfold outB;rw[decide_eq_true h];simp
theorem outB_ge{b:ARat}(h:1≤b.val):outB b=true:=by unfold outB;rw[decide_eq_true h];simp
theorem outB_no{b:ARat}(h:b.valid=true)(h1:¬b.val<0)(h2:¬1≤b.val):outB b=false:=by
 unfold outB;rw[h,decide_eq_false h1,decide_eq_false h2];rfl
theorem outB_parts{b:ARat}(h:outB b=false):b.valid=true∧0≤b.val∧b.val<1:=by
 unfold outB at h
 rw[Bool.or_eq_false_iff,Bool.or_eq_false_iff] at h
 obtain⟨h1,h2,h3⟩:=h
 have h2:=of_decide_eq_false h2
 have h3:=of_decide_eq_false h3
 exact⟨by simpa using h1,by grind,by grind⟩
theorem chkB_asc:∀(bs:List ARat) (p:Option Rat),chkB p bs=0→bs.all ARat.valid=true∧(∀b∈bs,0≤b.val∧b.val<1)∧(vals bs).Pairwise (·<·)∧(∀q,p=some q→∀b∈bs,q<b.val)
 |[],p,_=>⟨rfl,(fun b h=>by cases h),List.Pairwise.nil,(fun q _ b h=>by cases h)⟩
 |b::r,p,h=>by
  cases h1:outB b with
  |true=>rw[chkB_out h1] at h;cases h
  |false =>
   cases h2:badB p b.val with
   |true=>rw[chkB_bad h1 h2] at h;cases h
   |false =>
    rw[show chkB p (b::r)=chkB (some b.val) r from by rw[chkB,h1,h2];rfl] at h
    obtain⟨g1,g2,g3,g4⟩:=chkB_asc r _ h
    obtain⟨o1,o2,o3⟩:=outB_parts h1
    refine⟨by rw[List.all_cons,o1,g1];rfl,?_,?_,?_⟩
    ·intro c hc
     rcases List.mem_cons.1 hc with e|hc
     ·rw[e];exact⟨o2,o3⟩
     ·exact g2 c hc
    ·refine List.Pairwise.cons ?_ g3
     intro c hc
     obtain⟨a,ha,rfl⟩:=List.mem_map.1 hc
     exact g4 _ rfl a ha
    ·intro q hq c hc
     subst hq
     have hb:q<b.val:=by
      have:=of_decide_eq_false h2
      grind
     rcases List.mem_cons.1 hc with e|hc
     ·rw[e];exact hb
     ·have:=g4 _ rfl c hc
      grind
theorem chkP_all:∀(ps:List (List ARat)),chkP ps=0→∀p∈ps,chk p=0∧p.length≤9
 |[],_=>fun p h=>by cases h
 |a::r,h=>by
  rw[chkP] at h
  by_cases h1:chk a=0
  ·rw[decide_eq_false (by simpa using h1),cond_false] at h
   cases h2:Nat.blt 9 a.length with
   |true=>rw[h2] at h;cases h
   |false =>
    rw[h2,cond_false] at h
    have h3:¬9<a.length:=by
     intro h3
     have:Nat.blt 9 a.length=true:=by simpa[Nat.blt_eq] using h3
     rw[h2] at this;cases this
    intro p hp
    rcases List.mem_cons.1 hp with e|hp
    ·rw[e];exact⟨h1,by omega⟩
    ·exact chkP_all r h p hp
  ·rw[decide_eq_true h1,cond_true] at h
   exact absurd h h1
structure Good (l:ALaw):Prop where
 n0:l.breaks.length≠0
 len:l.breaks.length=l.pieces.length
 le:l.breaks.length≤16
 valid:l.breaks.all ARat.valid=true
 unit:∀b∈l.breaks,0≤b.val∧b.val<1
 asc:(vals l.breaks).Pairwise (·<·)
 first:∀v,l.breaks[0]? = some v→v.val=0
 ps:∀p∈l.pieces,chk p=0∧p.length≤9
theorem good_of{l:ALaw}(h:chkLaw l=0):Good l:=by
 unfold chkLaw at h
 split at h
 ·cases h
 ·split at h
  ·cases h
  ·rename_i h1 h2
   unfold chkR at h
   by_cases hb:chkB none l.breaks=0
   ·rw[hb] at h
    have h:chkP l.pieces=0:=h
    obtain⟨g1,g2,g3,g4⟩:=chkB_asc _ _ hb
    refine⟨by omega,by omega,by omega,g1,g2,g3,?_,chkP_all _ h⟩
    intro v hv
    cases hl:l.breaks with
    |nil=>rw[hl] at hv;cases hv
    |cons b r =>
     rw[hl] at hv hb
     have e:b=v:=by simpa using hv
     subst e
     cases o:outB b with
     |true=>rw[chkB_out o] at hb;cases hb
     |false =>
      cases o2:badB none b.val with
      |true=>rw[chkB_bad o o2] at hb;cases hb
      |false=>have:=of_decide_eq_false o2;simpa using this
   ·rw[decide_eq_true hb,cond_true] at h
    exact absurd h hb
def frac(x:Rat):Rat:=x-(x.floor:Rat)
theorem ht_frac{x:Rat}{k:Nat}(h:ht x≤k):ht (frac x)≤2*k+2:=by
 have h1:=ht_sub x (x.floor:Rat)
 have h2:=ht_int x.floor
 have h3:=wl_floor x
 unfold frac
 omega
def pieceF:List Rat→Rat→Nat
 |[],_=>0
 |b::r,x=>bif decide (b≤x) then pieceF r x+1 else 0
def pieceL(bs:List Rat)(x:Rat):Nat:=pieceF (bs.drop 1) x
theorem pieceF_eq : ∀ (r : List Rat) (x : Rat) (i : Nat), (∀ j b, j < i → r[j]? = some b → b ≤ x) → (∀ b, r[i]? = some b → x < b) → i ≤ r.length → pieceF r x = i
  | [], x, i, _, _, h => by have : i = 0 := by simpa using h
                            subst this; rfl
  | b :: r, x, 0, _, h, _ => by
    have := h b rfl
    rw [pieceF, decide_eq_false (by grind)]; rfl
  | b :: r, x, i + 1, h1, h2, h3 => by
    have := h1 0 b (by omega) rfl
    rw [pieceF, decide_eq_true this, cond_true, pieceF_eq r x i (fun j c hj hc => h1 (j + 1) c (by omega) hc) (fun c hc => h2 c hc) (by simpa using h3)]
theorem pieceF_le:∀(r:List Rat) (x:Rat),pieceF r x≤r.length
 |[],_=>by simp[pieceF]
 |b::r,x=>by
  rw[pieceF]
  have:=pieceF_le r x
  cases decide (b≤x)<;>simp<;>omega
theorem pieceL_lt{bs:List Rat}(h:bs.length≠0)(x:Rat):pieceL bs x<bs.length:=by
 have:=pieceF_le (bs.drop 1) x
 unfold pieceL
 rw[List.length_drop] at this
 omega
def atW(l:ALaw)(x:Rat):Rat:=evalL (vals (l.pieces.getD (pieceL (vals l.breaks) (frac x)) [])) (frac x-(l.breaks.getD (pieceL (vals l.breaks) (frac x)) ⟨false,[],[]⟩).val)
def endW(l:ALaw)(i:Nat):Rat:=match l.breaks[i+1]? with
 |some v=>v.val
 |none=>(1:Int)
def deriveW(l:ALaw):ALaw:=⟨(vals l.breaks).map mkR,l.pieces.map (fun p=>(deriveL (vals p)).map mkR)⟩
def riseG(s u:Rat):Rat→List Int→List Rat
 |_,[]=>[]
 |w,n::r=>s*((n:Rat)*w)::riseG s u (w*u) r
def riseN(degree:Int):List Int:=if degree=1 then [0,1] else if degree=3 then [0,0,3, -2] else [0,0,0,10, -15,6]
def riseL(len x y:Rat)(degree:Int):List Rat:=trimL (x::(riseG (y-x) (1/len) (1/len) ((riseN degree).drop 1)))
def riseC(len x y:ARat)(degree:Int):Int:=bif !len.valid||(decide (len.val≤0)||(!x.valid || !y.valid)) then 3 else if degree=1∨degree=3∨degree=5 then 0 else 7
end Go.Proofs.YtegpfcmnjhmhjaaGreat.Sym
namespace Go.Proofs.YtegpfcmnjhmhjaaGreat.Sym.Path
open Go
set_option maxRecDepth 20000
set_option linter.unusedVariables false
namespace law_Shift
@[reducible] noncomputable def fn:Func:=Tryz.f9
noncomputable def atK1:List Itm:=focus [0,2,0,0,2,0,2,1,2,0,0,2,1,2,0,2,0,0,2,0,0] [.code (bodyOf fn)]
def inv1(len_32:Nat)(l:ALaw)(t_36:Nat)(byV:ARat)(site_32:List ARat):St:=⟨[(2,(.ptr 2 0)),(3,(.ptr 3 0)),(4,(.ptr 4 0)),(7,(.row 32 0 len_32 3)),(34,(.pv (polyPV l.breaks))),(35,(eI (l.breaks.length:Int))),(36,(eI (t_36:Int)))],[(2,(.lit [(.pv (polyPV l.breaks)),(.pv (lpv (lcell ARat.cells) l.pieces))])),(3,(.lit [(eB byV.neg),(.pv (wordsPV byV.num)),(.pv (wordsPV byV.den))])),(4,(.lit [(.pv (.list [])),(.pv (.list []))])),(32,(.pure ((site_32:List ARat).map ARat.cells).flatten))]⟩
@[reducible] noncomputable def Loop1(len_32:Nat)(l:ALaw)(t_36:Nat)(byV:ARat)(site_32:List ARat)(r:PV):Prop:=L prg fn atK1 (inv1 len_32 l t_36 byV site_32) r
noncomputable def atK2:List Itm:=focus [0,2,0,0,2,0,2,1,2,0,0,2,1,2,0,2,0,0,2,0,0,0,0,2,0,1,2,2,2,2,0,0,2,1,2,0,2,0,2,0,0,2,0,0] [.code (bodyOf fn)]
def inv2(z:List ARat)(t_71:Nat)(l:ALaw)(byV:ARat)(site_117:List (List ARat)):St:=⟨[(2,(.ptr 2 0)),(3,(.ptr 3 0)),(4,(.ptr 4 0)),(12,(.ptr 12 0)),(69,(.pv (polyPV z))),(70,(eI (z.length:Int))),(71,(eI (t_71:Int)))],[(2,(.lit [(.pv (polyPV l.breaks)),(.pv (lpv (lcell ARat.cells) l.pieces))])),(3,(.lit [(eB byV.neg),(.pv (wordsPV byV.num)),(.pv (wordsPV byV.den))])),(4,(.lit [(.pv (.list [])),(.pv (.list []))])),(12,(.lit [(.pv (polyPV z)),(.row 117 0 site_117.length 1)])),(117,(.pure ((site_117:List (List ARat)).map (lcell ARat.cells)).flatten))]⟩
@[reducible] noncomputable def Loop2(z:List ARat)(t_71:Nat)(l:ALaw)(byV:ARat)(site_117:List (List ARat))(r:PV):Prop:=L prg fn atK2 (inv2 z t_71 l byV site_117) r
theorem e1(l:ALaw)(byV:ARat)(val:Bool){r:PV}(h1:Contract prg 15 [l.pv] .nilI)(h2:Contract prg 28 [byV.pv] (vB val))(h3:val=true)(hL:Loop1 1 l 0 byV [(⟨false,[],[]⟩:ARat)] r):Contract prg 9 [l.pv,byV.pv] r :=
 Contract.ofL Tryz.func9 (by kernel_rfl) (L.go mixed tabOk (n:=123) (ns:=[1,1,1,1]) (tr:=[.reg [],.reg [.none,(.pv .nilI)],.reg [],.auto,.reg [.none,(.pv (vB val))],.dec false,.reg [],.reg [.none,.none,(iI (l.breaks.length:Int))],.keep [2,3,4,7,34,35,36],.ord [2,3,4,32]]) (cj h1 (cj h2 (cj (bnot_f h3) (cj (o_len ARat.cells l.breaks) True.intro)))) (by kernel_rfl) hL)
theorem l10(len_32:Nat)(l:ALaw)(t_36:Nat)(byV:ARat)(site_32:List ARat)(v add wra:ARat)(z:List ARat)(rat:Bool){r:PV}(h1:t_36<l.breaks.length)(h2:l.breaks[t_36]? = some v)(h3:Contract prg 19 [v.pv,byV.pv] add.pv)(h4:Contract prg 29 [add.pv] (.tup [wra.pv,.nilI]))(h5:ContractX prg 30 [.row 100000 0 len_32 3,.clo 31 100001] [(100000,(.pure ((site_32:List ARat).map ARat.cells).flatten)),(100001,(.lit [(eB wra.neg),(.pv (wordsPV wra.num)),(.pv (wordsPV wra.den))]))] (.pv (vB rat)) [(100000,(.pure ((z:List ARat).map ARat.cells).flatten)),(100001,(.lit [(eB wra.neg),(.pv (wordsPV wra.num)),(.pv (wordsPV wra.den))]))])(h6:rat=false)(h7:z.length=len_32)(h8:((z++[wra]):List ARat).length*56≤140737488355328)(h9:(t_36+1)<9223372036854775808)(hL:Loop1 ((z++[wra]).length) l (t_36+1) byV (z++[wra]) r):Loop1 len_32 l t_36 byV site_32 r :=
 L.go mixed tabOk (n:=192) (ns:=[1,3,1,1,1,1,6,1]) (tr:=[.auto,.reg [],.dec true,.reg [(.row t_36 (ARat.cells v))],.reg [.none,.none,(.pv add.pv),(.pv (.tup [wra.pv,.nilI]))],.reg [],.auto,.reg [.none,.none,(.callX [(32,100000),(10,100001)] none (.pv (vB rat)) [(100000,(.pure ((z:List ARat).map ARat.cells).flatten)),(100001,(.lit [(eB wra.neg),(.pv (wordsPV wra.num)),(.pv (wordsPV wra.den))]))])],.dec true,.reg [.none,.none,.none,(.app ((z++[wra]):List ARat).length (((z++[wra]):List ARat).map ARat.cells).flatten)],.reg [(iI (((t_36+1):Nat):Int))],.keep [2,3,4,7,34,35,36],.drop [57,10,9],.ren 58 32,.ord [2,3,4,32]]) (cj (dltN_t h1) (cj (o_at ARat.cells (Eq.refl (((t_36:Nat):Int):Int)) h2) (cj h3 (cj h4 (cj h5 (cj (bnot_t h6) (cj (o_appR sz_ARat (z:List ARat) ([wra]:List ARat) 56 h7 (Eq.refl ([wra]:List ARat).length) h8 rfl) (cj (bs_addN h9) True.intro)))))))) (by kernel_rfl) hL
theorem l11(len_32:Nat)(l:ALaw)(t_36:Nat)(byV:ARat)(site_32:List ARat)(v add wra:ARat)(z:List ARat)(rat:Bool){r:PV}(h1:t_36<l.breaks.length)(h2:l.breaks[t_36]? = some v)(h3:Contract prg 19 [v.pv,byV.pv] add.pv)(h4:Contract prg 29 [add.pv] (.tup [wra.pv,.nilI]))(h5:ContractX prg 30 [.row 100000 0 len_32 3,.clo 31 100001] [(100000,(.pure ((site_32:List ARat).map ARat.cells).flatten)),(100001,(.lit [(eB wra.neg),(.pv (wordsPV wra.num)),(.pv (wordsPV wra.den))]))] (.pv (vB rat)) [(100000,(.pure ((z:List ARat).map ARat.cells).flatten)),(100001,(.lit [(eB wra.neg),(.pv (wordsPV wra.num)),(.pv (wordsPV wra.den))]))])(h6:rat=true)(h7:(t_36+1)<9223372036854775808)(hL:Loop1 len_32 l (t_36+1) byV z r):Loop1 len_32 l t_36 byV site_32 r :=
 L.go mixed tabOk (n:=192) (ns:=[1,3,1,1,1,1,1]) (tr:=[.auto,.reg [],.dec true,.reg [(.row t_36 (ARat.cells v))],.reg [.none,.none,(.pv add.pv),(.pv (.tup [wra.pv,.nilI]))],.reg [],.auto,.reg [.none,.none,(.callX [(32,100000),(10,100001)] none (.pv (vB rat)) [(100000,(.pure ((z:List ARat).map ARat.cells).flatten)),(100001,(.lit [(eB wra.neg),(.pv (wordsPV wra.num)),(.pv (wordsPV wra.den))]))])],.dec false,.reg [(iI (((t_36+1):Nat):Int))],.keep [2,3,4,7,34,35,36],.drop [10,9]]) (cj (dltN_t h1) (cj (o_at ARat.cells (Eq.refl (((t_36:Nat):Int):Int)) h2) (cj h3 (cj h4 (cj h5 (cj (bnot_f h6) (cj (bs_addN h7) True.intro))))))) (by kernel_rfl) hL
theorem l13(len_32:Nat)(l:ALaw)(t_36:Nat)(byV:ARat)(site_32:List ARat)(h1:l.breaks.length≤t_36)(h2:16<len_32):Loop1 len_32 l t_36 byV site_32 (.tup [(⟨[],[]⟩:ALaw).pv,(.iface 44 (vI 4))]) :=
 L.done mixed tabOk (n:=168) (ns:=[1,1]) (tr:=[.auto,.reg [],.dec false,.reg [],.dec true,.reg []]) (cj (dltN_f h1) (cj (dltN_t h2) True.intro)) (by kernel_rfl)
theorem l14(len_32:Nat)(l:ALaw)(t_36:Nat)(byV:ARat)(site_32 z:List ARat){r:PV}(h1:l.breaks.length≤t_36)(h2:len_32≤16)(h3:ContractX prg 33 [.row 100000 0 len_32 3,.pv (.fn 32)] [(100000,(.pure ((site_32:List ARat).map ARat.cells).flatten))] (.pv (.tup [])) [(100000,(.pure ((z:List ARat).map ARat.cells).flatten))])(h4:len_32=z.length)(hL:Loop2 z 0 l byV [] r):Loop1 len_32 l t_36 byV site_32 r :=
 L.go mixed tabOk (n:=192) (ns:=[1,1,1,3,1]) (tr:=[.auto,.reg [],.dec false,.reg [],.dec false,.reg [.none,(.callX [(32,100000)] none (.pv (.tup [])) [(100000,(.pure ((z:List ARat).map ARat.cells).flatten))])],.frzT 7 ((z:List ARat).map ARat.cells),.reg [.none,.nil],.adoptC 12 1 117 1,.reg [.none,(iI (z.length:Int))],.keep [2,3,4,12,69,70,71],.ord [2,3,4,12,117]]) (cj (dltN_f h1) (cj (dltN_f h2) (cj h3 (cj (o_frz sz_ARat (z:List ARat) h4) (cj (o_len ARat.cells z) True.intro))))) (by kernel_rfl) hL
theorem l20(z:List ARat)(t_71:Nat)(l:ALaw)(byV:ARat)(site_117:List (List ARat))(v sub wra:ARat)(pie:Int)(k:Nat)(v1 sub1 one:ARat)(tri:List ARat)(k1:Nat)(v2 com:List ARat){r:PV}(h1:t_71<z.length)(h2:z[t_71]? = some v)(h3:Contract prg 34 [v.pv,byV.pv] sub.pv)(h4:Contract prg 29 [sub.pv] (.tup [wra.pv,.nilI]))(h5:Contract prg 35 [l.pv,wra.pv] (vI pie))(h6:pie=(k:Int))(h7:l.breaks[k]? = some v1)(h8:Contract prg 34 [wra.pv,v1.pv] sub1.pv)(h9:Contract prg 37 [] one.pv)(h10:Contract prg 36 [(polyPV [sub1,one])] (polyPV tri))(h11:pie=(k1:Int))(h12:l.pieces[k1]? = some v2)(h13:Contract prg 38 [(polyPV v2),(polyPV tri)] (.tup [(polyPV com),.nilI]))(h14:((site_117++[com]):List (List ARat)).length*24≤140737488355328)(h15:(t_71+1)<9223372036854775808)(hL:Loop2 z (t_71+1) l byV (site_117++[com]) r):Loop2 z t_71 l byV site_117 r :=
 L.go mixed tabOk (n:=285) (ns:=[1,3,1,1,1,3,1,1,3,1,3,1,6,1]) (tr:=[.auto,.reg [],.dec true,.reg [(.row t_71 (ARat.cells v))],.reg [.none,.none,(.pv sub.pv),(.pv (.tup [wra.pv,.nilI]))],.reg [],.auto,.reg [.none,.none,(.pv (vI pie))],dr 10 1 [.none,.none,.none,.none,(.row k (ARat.cells v1)),.none,(.pv sub1.pv),(.pv one.pv),(.slc 0 0 (([sub1,one]:List ARat).map ARat.cells)),(.pv (polyPV tri))],.reg [.none,.none,.none,(.row k1 ((lcell ARat.cells) v2)),.none,.none,(.pv (.tup [(polyPV com),.nilI]))],.reg [],.auto,.reg [.none,.none,.none,.none,(.app ((site_117++[com]):List (List ARat)).length (((site_117++[com]):List (List ARat)).map (lcell ARat.cells)).flatten)],.reg [(iI (((t_71+1):Nat):Int))],.keep [2,3,4,12,69,70,71],.drop [116,15,14],.ord [2,3,4,12,117]]) (cj (dltN_t h1) (cj (o_at ARat.cells (Eq.refl (((t_71:Nat):Int):Int)) h2) (cj h3 (cj h4 (cj h5 (cj (o_at ARat.cells h6 h7) (cj h8 (cj h9 (cj (o_bs sz_ARat ([sub1,one]:List ARat)) (cj h10 (cj (o_at (lcell ARat.cells) h11 h12) (cj h13 (cj (o_appR (sz_l ARat.cells) (site_117:List (List ARat)) ([com]:List (List ARat)) 24 (Eq.refl (site_117:List (List ARat)).length) (Eq.refl ([com]:List (List ARat)).length) h14 rfl) (cj (bs_addN h15) True.intro)))))))))))))) (by kernel_rfl) hL
theorem l23(z:List ARat)(t_71:Nat)(l:ALaw)(byV:ARat)(site_117:List (List ARat))(h1:z.length≤t_71):Loop2 z t_71 l byV site_117 (.tup [(⟨z,site_117⟩:ALaw).pv,.nilI]) :=
 L.done mixed tabOk (n:=225) (ns:=[1,3]) (tr:=[.auto,.reg [],.dec false,.frzC 12 1 ((site_117:List (List ARat)).map (lcell ARat.cells)),.reg []]) (cj (dltN_f h1) (cj (o_frz (sz_l ARat.cells) (site_117:List (List ARat)) (Eq.refl (site_117:List (List ARat)).length)) True.intro)) (by kernel_rfl)
end law_Shift
namespace linkworkref52_Check
@[reducible] noncomputable def fn:Func:=Tryz.f10
noncomputable def atK1:List Itm:=focus [0,2,0,0,2,1,2,0,0,2,1,2,0,0,2,0,0] [.code (bodyOf fn)]
def inv1(i_3:Nat)(l:ALaw):St:=⟨[(1,(.ptr 1 0)),(3,(eI (i_3:Int)))],[(1,(.lit [(.pv (polyPV l.breaks)),(.pv (lpv (lcell ARat.cells) l.pieces))]))]⟩
@[reducible] noncomputable def Loop1(i_3:Nat)(l:ALaw)(r:PV):Prop:=L prg fn atK1 (inv1 i_3 l) r
noncomputable def atK2:List Itm:=focus [0,2,0,0,2,1,2,0,0,2,1,2,0,0,2,0,0,0,0,0,2,1,2,2,2,2,0,0,2,0,0] [.code (bodyOf fn)]
def inv2(i_5:Nat)(l:ALaw):St:=⟨[(1,(.ptr 1 0)),(5,(eI (i_5:Int)))],[(1,(.lit [(.pv (polyPV l.breaks)),(.pv (lpv (lcell ARat.cells) l.pieces))]))]⟩
@[reducible] noncomputable def Loop2(i_5:Nat)(l:ALaw)(r:PV):Prop:=L prg fn atK2 (inv2 i_5 l) r
theorem e0(l:ALaw)(h1:l.breaks.length=0):Contract prg 10 [l.pv] (vI 10) :=
 Contract.ofL Tryz.func10 (by kernel_rfl) (L.done mixed tabOk (n:=84) (ns:=[1,1,1,1,1,1,1,1,1]) (tr:=[.reg [],.reg [.none,.none,(iI (l.breaks.length:Int)),.none,.none,.skip,.skip,.skip,.skip,.skip,.skip,.skip,(.dec true)],.auto,.reg []]) (cj (o_len ARat.cells l.breaks) (cj (deqN_t h1) (cj (deqN_t h1) (cj (deqN_t h1) (cj (deqN_t h1) (cj (deqN_t h1) (cj (deqN_t h1) (cj (deqN_t h1) (cj (deqN_t h1) True.intro))))))))) (by kernel_rfl))
theorem e1(l:ALaw)(h1:l.breaks.length≠0)(h2:l.breaks.length≠l.pieces.length):Contract prg 10 [l.pv] (vI 10) :=
 Contract.ofL Tryz.func10 (by kernel_rfl) (L.done mixed tabOk (n:=84) (ns:=[1,1,1,1,1,1,1,1,1,1,1,1]) (tr:=[.reg [],.reg [.none,.none,(iI (l.breaks.length:Int)),.none,.none,.none,.none,(iI (l.breaks.length:Int)),.none,.none,(iI (l.pieces.length:Int)),.none,(.dec false)],.dec true,.reg []]) (cj (o_len ARat.cells l.breaks) (cj (deqN_f h1) (cj (deqN_f h1) (cj (deqN_f h1) (cj (o_len ARat.cells l.breaks) (cj (deqN_f h1) (cj (deqN_f h1) (cj (deqN_f h1) (cj (o_len (lcell ARat.cells) l.pieces) (cj (deqN_f h1) (cj (deqN_f h1) (cj (dneN_t h2) True.intro)))))))))))) (by kernel_rfl))
theorem e2(l:ALaw)(h1:l.breaks.length≠0)(h2:l.breaks.length=l.pieces.length)(h3:16<l.breaks.length):Contract prg 10 [l.pv] (vI 4) :=
 Contract.ofL Tryz.func10 (by kernel_rfl) (L.done mixed tabOk (n:=99) (ns:=[1,1,1,1,1,1,1,1,1,1,1,1,1,1]) (tr:=[.reg [],.reg [.none,.none,(iI (l.breaks.length:Int)),.none,.none,.none,.none,(iI (l.breaks.length:Int)),.none,.none,(iI (l.pieces.length:Int)),.none,(.dec false)],.dec false,.reg [.none,.none,(iI (l.breaks.length:Int))],.dec true,.reg []]) (cj (o_len ARat.cells l.breaks) (cj (deqN_f h1) (cj (deqN_f h1) (cj (deqN_f h1) (cj (o_len ARat.cells l.breaks) (cj (deqN_f h1) (cj (deqN_f h1) (cj (deqN_f h1) (cj (o_len (lcell ARat.cells) l.pieces) (cj (deqN_f h1) (cj (deqN_f h1) (cj (dneN_f h2) (cj (o_len ARat.cells l.breaks) (cj (dltN_t h3) True.intro)))))))))))))) (by kernel_rfl))
theorem e3(l:ALaw){r:PV}(h1:l.breaks.length≠0)(h2:l.breaks.length=l.pieces.length)(h3:l.breaks.length≤16)(hL:Loop1 0 l r):Contract prg 10 [l.pv] r :=
 Contract.ofL Tryz.func10 (by kernel_rfl) (L.go mixed tabOk (n:=111) (ns:=[1,1,1,1,1,1,1,1,1,1,1,1,1,1]) (tr:=[.reg [],.reg [.none,.none,(iI (l.breaks.length:Int)),.none,.none,.none,.none,(iI (l.breaks.length:Int)),.none,.none,(iI (l.pieces.length:Int)),.none,(.dec false)],.dec false,.reg [.none,.none,(iI (l.breaks.length:Int))],.dec false,.reg [],.keep [1,3]]) (cj (o_len ARat.cells l.breaks) (cj (deqN_f h1) (cj (deqN_f h1) (cj (deqN_f h1) (cj (o_len ARat.cells l.breaks) (cj (deqN_f h1) (cj (deqN_f h1) (cj (deqN_f h1) (cj (o_len (lcell ARat.cells) l.pieces) (cj (deqN_f h1) (cj (deqN_f h1) (cj (dneN_f h2) (cj (o_len ARat.cells l.breaks) (cj (dltN_f h3) True.intro)))))))))))))) (by kernel_rfl) hL)
theorem l10(i_3:Nat)(l:ALaw)(v:ARat)(val:Bool)(h1:i_3<l.breaks.length)(h2:l.breaks[i_3]? = some v)(h3:Contract prg 11 [v.pv] (vB val))(h4:val=false):Loop1 i_3 l (vI 3) :=
 L.done mixed tabOk (n:=159) (ns:=[1,1,3,1,1,1,1,1,1,1,1,1]) (tr:=[.auto,.reg [.none,.none,.none,(iI (l.breaks.length:Int))],.dec true,.reg [.none,.none,.none,(.row i_3 (ARat.cells v))],dr 14 0 [.none,(.pv (vB val)),.none,.none,.skip,.skip,.skip,(.dec true),.none,.skip,.skip,.skip,.skip],.auto,.reg []]) (cj (o_len ARat.cells l.breaks) (cj (dltN_t h1) (cj (o_at ARat.cells (Eq.refl (((i_3:Nat):Int):Int)) h2) (cj h3 (cj (bnot_t h4) (cj (bnot_t h4) (cj (bnot_t h4) (cj (bnot_t h4) (cj (Eq.refl true) (cj (Eq.refl true) (cj (Eq.refl true) (cj (Eq.refl true) True.intro)))))))))))) (by kernel_rfl)
theorem l11(i_3:Nat)(l:ALaw)(v:ARat)(val:Bool)(sig:Int)(h1:i_3<l.breaks.length)(h2:l.breaks[i_3]? = some v)(h3:Contract prg 11 [v.pv] (vB val))(h4:val=true)(h5:Contract prg 39 [v.pv] (vI sig))(h6:sig<0):Loop1 i_3 l (vI 3) :=
 L.done mixed tabOk (n:=159) (ns:=[1,1,3,1,1,1,1,1,1,1,1,1,1,1]) (tr:=[.auto,.reg [.none,.none,.none,(iI (l.breaks.length:Int))],.dec true,.reg [.none,.none,.none,(.row i_3 (ARat.cells v))],dr 14 0 [.none,(.pv (vB val)),.none,.none,.none,(.pv (vI sig)),.none,(.dec false),.none,.skip,.skip,.skip,.skip,(.dec true)],.auto,.reg []]) (cj (o_len ARat.cells l.breaks) (cj (dltN_t h1) (cj (o_at ARat.cells (Eq.refl (((i_3:Nat):Int):Int)) h2) (cj h3 (cj (bnot_f h4) (cj (bnot_f h4) (cj h5 (cj (bnot_f h4) (cj (bnot_f h4) (cj (dlt_t h6) (cj (dlt_t h6) (cj (dlt_t h6) (cj (dlt_t h6) (cj (dlt_t h6) True.intro)))))))))))))) (by kernel_rfl)
theorem l12(i_3:Nat)(l:ALaw)(v:ARat)(val:Bool)(sig:Int)(of:ARat)(cmp:Int)(h1:i_3<l.breaks.length)(h2:l.breaks[i_3]? = some v)(h3:Contract prg 11 [v.pv] (vB val))(h4:val=true)(h5:Contract prg 39 [v.pv] (vI sig))(h6:0≤sig)(h7:Contract prg 41 [(vI 1)] of.pv)(h8:Contract prg 40 [v.pv,of.pv] (vI cmp))(h9:0≤cmp):Loop1 i_3 l (vI 3) :=
 L.done mixed tabOk (n:=159) (ns:=[1,1,3,1,1,1,1,1,1,1,1,1,1,1,1,1,1]) (tr:=[.auto,.reg [.none,.none,.none,(iI (l.breaks.length:Int))],.dec true,.reg [.none,.none,.none,(.row i_3 (ARat.cells v))],dr 14 0 [.none,(.pv (vB val)),.none,.none,.none,(.pv (vI sig)),.none,(.dec false),.none,.none,(.pv of.pv),(.pv (vI cmp)),.none,(.dec false)],.dec true,.reg []]) (cj (o_len ARat.cells l.breaks) (cj (dltN_t h1) (cj (o_at ARat.cells (Eq.refl (((i_3:Nat):Int):Int)) h2) (cj h3 (cj (bnot_f h4) (cj (bnot_f h4) (cj h5 (cj (bnot_f h4) (cj (bnot_f h4) (cj (dlt_f h6) (cj (dlt_f h6) (cj h7 (cj (dlt_f h6) (cj h8 (cj (dlt_f h6) (cj (dlt_f h6) (cj (dle_t h9) True.intro))))))))))))))))) (by kernel_rfl)
theorem l13(i_3:Nat)(l:ALaw)(v:ARat)(val:Bool)(sig:Int)(of:ARat)(cmp sig1:Int)(h1:i_3<l.breaks.length)(h2:l.breaks[i_3]? = some v)(h3:Contract prg 11 [v.pv] (vB val))(h4:val=true)(h5:Contract prg 39 [v.pv] (vI sig))(h6:0≤sig)(h7:Contract prg 41 [(vI 1)] of.pv)(h8:Contract prg 40 [v.pv,of.pv] (vI cmp))(h9:cmp<0)(h10:i_3=0)(h11:Contract prg 39 [v.pv] (vI sig1))(h12:sig1≠0):Loop1 i_3 l (vI 12) :=
 L.done mixed tabOk (n:=171) (ns:=[1,1,3,1,1,1,1,1,1,1,1,1,1,1,1,1,1,1,1,1,1,1,1,1,1,1,1]) (tr:=[.auto,.reg [.none,.none,.none,(iI (l.breaks.length:Int))],.dec true,.reg [.none,.none,.none,(.row i_3 (ARat.cells v))],dr 14 0 [.none,(.pv (vB val)),.none,.none,.none,(.pv (vI sig)),.none,(.dec false),.none,.none,(.pv of.pv),(.pv (vI cmp)),.none,(.dec false)],.dec false,dr 22 0 [.none,.none,.none,.none,(.pv (vI sig1)),.none,(.dec true),.none,.skip,.skip,.skip,.skip,.skip,.skip,.skip,.skip,.skip,.skip,.skip,.skip,.skip,(.dec true)],.auto,.reg []]) (cj (o_len ARat.cells l.breaks) (cj (dltN_t h1) (cj (o_at ARat.cells (Eq.refl (((i_3:Nat):Int):Int)) h2) (cj h3 (cj (bnot_f h4) (cj (bnot_f h4) (cj h5 (cj (bnot_f h4) (cj (bnot_f h4) (cj (dlt_f h6) (cj (dlt_f h6) (cj h7 (cj (dlt_f h6) (cj h8 (cj (dlt_f h6) (cj (dlt_f h6) (cj (dle_f h9) (cj (deqN_t h10) (cj (deqN_t h10) (cj h11 (cj (deqN_t h10) (cj (deqN_t h10) (cj (dne_t h12) (cj (dne_t h12) (cj (dne_t h12) (cj (dne_t h12) (cj (dne_t h12) True.intro))))))))))))))))))))))))))) (by kernel_rfl)
theorem l16(i_3:Nat)(l:ALaw)(v:ARat)(val:Bool)(sig:Int)(of:ARat)(cmp sig1:Int){r:PV}(h1:i_3<l.breaks.length)(h2:l.breaks[i_3]? = some v)(h3:Contract prg 11 [v.pv] (vB val))(h4:val=true)(h5:Contract prg 39 [v.pv] (vI sig))(h6:0≤sig)(h7:Contract prg 41 [(vI 1)] of.pv)(h8:Contract prg 40 [v.pv,of.pv] (vI cmp))(h9:cmp<0)(h10:i_3=0)(h11:Contract prg 39 [v.pv] (vI sig1))(h12:sig1=0)(h13:i_3≤0)(h14:(i_3+1)<9223372036854775808)(hL:Loop1 (i_3+1) l r):Loop1 i_3 l r :=
 L.go mixed tabOk (n:=174) (ns:=[1,1,3,1,1,1,1,1,1,1,1,1,1,1,1,1,1,1,1,1,1,1,1,1,1,1,1,1,1,1,1,1,1,1,1,1,1,1]) (tr:=[.auto,.reg [.none,.none,.none,(iI (l.breaks.length:Int))],.dec true,.reg [.none,.none,.none,(.row i_3 (ARat.cells v))],dr 14 0 [.none,(.pv (vB val)),.none,.none,.none,(.pv (vI sig)),.none,(.dec false),.none,.none,(.pv of.pv),(.pv (vI cmp)),.none,(.dec false)],.dec false,dr 22 0 [.none,.none,.none,.none,(.pv (vI sig1)),.none,(.dec true),.none,.none,.none,.none,.skip,.skip,.skip,.skip,.skip,.skip,.skip,.skip,.skip,(.dec false),(.dec false)],.auto,.reg [.none,(iI (((i_3+1):Nat):Int))],.keep [1,3],.drop [4]]) (cj (o_len ARat.cells l.breaks) (cj (dltN_t h1) (cj (o_at ARat.cells (Eq.refl (((i_3:Nat):Int):Int)) h2) (cj h3 (cj (bnot_f h4) (cj (bnot_f h4) (cj h5 (cj (bnot_f h4) (cj (bnot_f h4) (cj (dlt_f h6) (cj (dlt_f h6) (cj h7 (cj (dlt_f h6) (cj h8 (cj (dlt_f h6) (cj (dlt_f h6) (cj (dle_f h9) (cj (deqN_t h10) (cj (deqN_t h10) (cj h11 (cj (deqN_t h10) (cj (deqN_t h10) (cj (dne_f h12) (cj (dne_f h12) (cj (dne_f h12) (cj (dltN_f h13) (cj (dltN_f h13) (cj (dltN_f h13) (cj (dltN_f h13) (cj (dltN_f h13) (cj (dltN_f h13) (cj (dltN_f h13) (cj (dltN_f h13) (cj (dltN_f h13) (cj (dne_f h12) (cj (dltN_f h13) (cj (dne_f h12) (cj (bs_addN h14) True.intro)))))))))))))))))))))))))))))))))))))) (by kernel_rfl) hL
theorem l17(i_3:Nat)(l:ALaw)(v:ARat)(val:Bool)(sig:Int)(of:ARat)(cmp:Int)(k:Nat)(v1:ARat)(cmp1:Int)(h1:i_3<l.breaks.length)(h2:l.breaks[i_3]? = some v)(h3:Contract prg 11 [v.pv] (vB val))(h4:val=true)(h5:Contract prg 39 [v.pv] (vI sig))(h6:0≤sig)(h7:Contract prg 41 [(vI 1)] of.pv)(h8:Contract prg 40 [v.pv,of.pv] (vI cmp))(h9:cmp<0)(h10:i_3≠0)(h11:0<i_3)(h12:InI64 ((i_3:Int)-1))(h13:((i_3:Int)-1)=(k:Int))(h14:l.breaks[k]? = some v1)(h15:Contract prg 40 [v.pv,v1.pv] (vI cmp1))(h16:cmp1≤0):Loop1 i_3 l (vI 12) :=
 L.done mixed tabOk (n:=171) (ns:=[1,1,3,1,1,1,1,1,1,1,1,1,1,1,1,1,1,1,1,1,1,1,1,1,1,1,1,1,1,1,1,3,1,1,1,1,1,1,1]) (tr:=[.auto,.reg [.none,.none,.none,(iI (l.breaks.length:Int))],.dec true,.reg [.none,.none,.none,(.row i_3 (ARat.cells v))],dr 14 0 [.none,(.pv (vB val)),.none,.none,.none,(.pv (vI sig)),.none,(.dec false),.none,.none,(.pv of.pv),(.pv (vI cmp)),.none,(.dec false)],.dec false,dr 22 0 [.none,.none,.none,.skip,.skip,.skip,(.dec false),.none,.none,.none,.none,.none,.none,.none,.none,(iI ((i_3:Int)-1)),(.row k (ARat.cells v1)),.none,(.pv (vI cmp1)),.none,(.dec true)],.dec true,.reg []]) (cj (o_len ARat.cells l.breaks) (cj (dltN_t h1) (cj (o_at ARat.cells (Eq.refl (((i_3:Nat):Int):Int)) h2) (cj h3 (cj (bnot_f h4) (cj (bnot_f h4) (cj h5 (cj (bnot_f h4) (cj (bnot_f h4) (cj (dlt_f h6) (cj (dlt_f h6) (cj h7 (cj (dlt_f h6) (cj h8 (cj (dlt_f h6) (cj (dlt_f h6) (cj (dle_f h9) (cj (deqN_f h10) (cj (deqN_f h10) (cj (deqN_f h10) (cj (deqN_f h10) (cj (Eq.refl false) (cj (Eq.refl false) (cj (Eq.refl false) (cj (dltN_t h11) (cj (dltN_t h11) (cj (dltN_t h11) (cj (dltN_t h11) (cj (dltN_t h11) (cj (bs_sub h12) (cj (dltN_t h11) (cj (o_at ARat.cells h13 h14) (cj (dltN_t h11) (cj (dltN_t h11) (cj h15 (cj (dltN_t h11) (cj (Eq.refl false) (cj (dltN_t h11) (cj (dle_t h16) True.intro))))))))))))))))))))))))))))))))))))))) (by kernel_rfl)
theorem l18(i_3:Nat)(l:ALaw)(v:ARat)(val:Bool)(sig:Int)(of:ARat)(cmp:Int)(k:Nat)(v1:ARat)(cmp1:Int){r:PV}(h1:i_3<l.breaks.length)(h2:l.breaks[i_3]? = some v)(h3:Contract prg 11 [v.pv] (vB val))(h4:val=true)(h5:Contract prg 39 [v.pv] (vI sig))(h6:0≤sig)(h7:Contract prg 41 [(vI 1)] of.pv)(h8:Contract prg 40 [v.pv,of.pv] (vI cmp))(h9:cmp<0)(h10:i_3≠0)(h11:0<i_3)(h12:InI64 ((i_3:Int)-1))(h13:((i_3:Int)-1)=(k:Int))(h14:l.breaks[k]? = some v1)(h15:Contract prg 40 [v.pv,v1.pv] (vI cmp1))(h16:0<cmp1)(h17:(i_3+1)<9223372036854775808)(hL:Loop1 (i_3+1) l r):Loop1 i_3 l r :=
 L.go mixed tabOk (n:=174) (ns:=[1,1,3,1,1,1,1,1,1,1,1,1,1,1,1,1,1,1,1,1,1,1,1,1,1,1,1,1,1,1,1,3,1,1,1,1,1,1,1,1]) (tr:=[.auto,.reg [.none,.none,.none,(iI (l.breaks.length:Int))],.dec true,.reg [.none,.none,.none,(.row i_3 (ARat.cells v))],dr 14 0 [.none,(.pv (vB val)),.none,.none,.none,(.pv (vI sig)),.none,(.dec false),.none,.none,(.pv of.pv),(.pv (vI cmp)),.none,(.dec false)],.dec false,dr 22 0 [.none,.none,.none,.skip,.skip,.skip,(.dec false),.none,.none,.none,.none,.none,.none,.none,.none,(iI ((i_3:Int)-1)),(.row k (ARat.cells v1)),.none,(.pv (vI cmp1)),.none,(.dec true)],.dec false,.reg [.none,(iI (((i_3+1):Nat):Int))],.keep [1,3],.drop [4]]) (cj (o_len ARat.cells l.breaks) (cj (dltN_t h1) (cj (o_at ARat.cells (Eq.refl (((i_3:Nat):Int):Int)) h2) (cj h3 (cj (bnot_f h4) (cj (bnot_f h4) (cj h5 (cj (bnot_f h4) (cj (bnot_f h4) (cj (dlt_f h6) (cj (dlt_f h6) (cj h7 (cj (dlt_f h6) (cj h8 (cj (dlt_f h6) (cj (dlt_f h6) (cj (dle_f h9) (cj (deqN_f h10) (cj (deqN_f h10) (cj (deqN_f h10) (cj (deqN_f h10) (cj (Eq.refl false) (cj (Eq.refl false) (cj (Eq.refl false) (cj (dltN_t h11) (cj (dltN_t h11) (cj (dltN_t h11) (cj (dltN_t h11) (cj (dltN_t h11) (cj (bs_sub h12) (cj (dltN_t h11) (cj (o_at ARat.cells h13 h14) (cj (dltN_t h11) (cj (dltN_t h11) (cj h15 (cj (dltN_t h11) (cj (Eq.refl false) (cj (dltN_t h11) (cj (dle_f h16) (cj (bs_addN h17) True.intro)))))))))))))))))))))))))))))))))))))))) (by kernel_rfl) hL
theorem l110(i_3:Nat)(l:ALaw){r:PV}(h1:l.breaks.length≤i_3)(hL:Loop2 0 l r):Loop1 i_3 l r :=
 L.go mixed tabOk (n:=153) (ns:=[1,1]) (tr:=[.auto,.reg [.none,.none,.none,(iI (l.breaks.length:Int))],.dec false,.reg [],.keep [1,5]]) (cj (o_len ARat.cells l.breaks) (cj (dltN_f h1) True.intro)) (by kernel_rfl) hL
theorem l20(i_5:Nat)(l:ALaw)(v:List ARat)(che:Int)(h1:i_5<l.pieces.length)(h2:l.pieces[i_5]? = some v)(h3:Contract prg 42 [(polyPV v)] (vI che))(h4:che≠0):Loop2 i_5 l (vI che) :=
 L.done mixed tabOk (n:=201) (ns:=[1,1,3,1,1]) (tr:=[.auto,.reg [.none,.none,.none,(iI (l.pieces.length:Int))],.dec true,.reg [.none,.none,.none,(.row i_5 ((lcell ARat.cells) v)),.none,(.pv (vI che))],.reg [],.dec true,.reg []]) (cj (o_len (lcell ARat.cells) l.pieces) (cj (dltN_t h1) (cj (o_at (lcell ARat.cells) (Eq.refl (((i_5:Nat):Int):Int)) h2) (cj h3 (cj (dne_t h4) True.intro))))) (by kernel_rfl)
theorem l21(i_5:Nat)(l:ALaw)(v:List ARat)(che:Int)(h1:i_5<l.pieces.length)(h2:l.pieces[i_5]? = some v)(h3:Contract prg 42 [(polyPV v)] (vI che))(h4:che=0)(h5:9<v.length):Loop2 i_5 l (vI 4) :=
 L.done mixed tabOk (n:=213) (ns:=[1,1,3,1,1,3,1,1]) (tr:=[.auto,.reg [.none,.none,.none,(iI (l.pieces.length:Int))],.dec true,.reg [.none,.none,.none,(.row i_5 ((lcell ARat.cells) v)),.none,(.pv (vI che))],.reg [],.dec false,.reg [.none,.none,.none,(.row i_5 ((lcell ARat.cells) v)),.none,(iI (v.length:Int))],.dec true,.reg []]) (cj (o_len (lcell ARat.cells) l.pieces) (cj (dltN_t h1) (cj (o_at (lcell ARat.cells) (Eq.refl (((i_5:Nat):Int):Int)) h2) (cj h3 (cj (dne_f h4) (cj (o_at (lcell ARat.cells) (Eq.refl (((i_5:Nat):Int):Int)) h2) (cj (o_len ARat.cells v) (cj (dltN_t h5) True.intro)))))))) (by kernel_rfl)
theorem l22(i_5:Nat)(l:ALaw)(v:List ARat)(che:Int){r:PV}(h1:i_5<l.pieces.length)(h2:l.pieces[i_5]? = some v)(h3:Contract prg 42 [(polyPV v)] (vI che))(h4:che=0)(h5:v.length≤9)(h6:(i_5+1)<9223372036854775808)(hL:Loop2 (i_5+1) l r):Loop2 i_5 l r :=
 L.go mixed tabOk (n:=216) (ns:=[1,1,3,1,1,3,1,1,1]) (tr:=[.auto,.reg [.none,.none,.none,(iI (l.pieces.length:Int))],.dec true,.reg [.none,.none,.none,(.row i_5 ((lcell ARat.cells) v)),.none,(.pv (vI che))],.reg [],.dec false,.reg [.none,.none,.none,(.row i_5 ((lcell ARat.cells) v)),.none,(iI (v.length:Int))],.dec false,.reg [.none,(iI (((i_5+1):Nat):Int))],.keep [1,5]]) (cj (o_len (lcell ARat.cells) l.pieces) (cj (dltN_t h1) (cj (o_at (lcell ARat.cells) (Eq.refl (((i_5:Nat):Int):Int)) h2) (cj h3 (cj (dne_f h4) (cj (o_at (lcell ARat.cells) (Eq.refl (((i_5:Nat):Int):Int)) h2) (cj (o_len ARat.cells v) (cj (dltN_f h5) (cj (bs_addN h6) True.intro))))))))) (by kernel_rfl) hL
theorem l23(i_5:Nat)(l:ALaw)(h1:l.pieces.length≤i_5):Loop2 i_5 l (vI 0) :=
 L.done mixed tabOk (n:=186) (ns:=[1,1]) (tr:=[.auto,.reg [.none,.none,.none,(iI (l.pieces.length:Int))],.dec false,.reg []]) (cj (o_len (lcell ARat.cells) l.pieces) (cj (dltN_f h1) True.intro)) (by kernel_rfl)
end linkworkref52_Check
namespace law_Check
@[reducible] noncomputable def fn:Func:=Tryz.f15
noncomputable def atK1:List Itm:=focus [0,2,0,0,2,1,2,0,0,2,1,2,0,0,2,0,0] [.code (bodyOf fn)]
def inv1(l:ALaw)(t_30:Nat):St:=⟨[(1,(.ptr 1 0)),(28,(.pv (polyPV l.breaks))),(29,(eI (l.breaks.length:Int))),(30,(eI (t_30:Int)))],[(1,(.lit [(.pv (polyPV l.breaks)),(.pv (lpv (lcell ARat.cells) l.pieces))]))]⟩
@[reducible] noncomputable def Loop1(l:ALaw)(t_30:Nat)(r:PV):Prop:=L prg fn atK1 (inv1 l t_30) r
noncomputable def atK2:List Itm:=focus [0,2,0,0,2,1,2,0,0,2,1,2,0,0,2,0,0,0,0,2,0,1,2,2,2,2,0,0,2,0,0] [.code (bodyOf fn)]
def inv2(l:ALaw)(t_77:Nat):St:=⟨[(75,(.pv (lpv (lcell ARat.cells) l.pieces))),(76,(eI (l.pieces.length:Int))),(77,(eI (t_77:Int)))],[]⟩
@[reducible] noncomputable def Loop2(l:ALaw)(t_77:Nat)(r:PV):Prop:=L prg fn atK2 (inv2 l t_77) r
theorem e0(l:ALaw)(h1:l.breaks.length=0):Contract prg 15 [l.pv] (.iface 44 (vI 10)) :=
 Contract.ofL Tryz.func15 (by kernel_rfl) (L.done mixed tabOk (n:=84) (ns:=[1,1,1,1,1,1,1,1,1]) (tr:=[.reg [],.reg [.none,.none,(iI (l.breaks.length:Int)),.none,.none,.skip,.skip,.skip,.skip,.skip,.skip,.skip,(.dec true)],.auto,.reg []]) (cj (o_len ARat.cells l.breaks) (cj (deqN_t h1) (cj (deqN_t h1) (cj (deqN_t h1) (cj (deqN_t h1) (cj (deqN_t h1) (cj (deqN_t h1) (cj (deqN_t h1) (cj (deqN_t h1) True.intro))))))))) (by kernel_rfl))
theorem e1(l:ALaw)(h1:l.breaks.length≠0)(h2:l.breaks.length≠l.pieces.length):Contract prg 15 [l.pv] (.iface 44 (vI 10)) :=
 Contract.ofL Tryz.func15 (by kernel_rfl) (L.done mixed tabOk (n:=84) (ns:=[1,1,1,1,1,1,1,1,1,1,1,1]) (tr:=[.reg [],.reg [.none,.none,(iI (l.breaks.length:Int)),.none,.none,.none,.none,(iI (l.breaks.length:Int)),.none,.none,(iI (l.pieces.length:Int)),.none,(.dec false)],.dec true,.reg []]) (cj (o_len ARat.cells l.breaks) (cj (deqN_f h1) (cj (deqN_f h1) (cj (deqN_f h1) (cj (o_len ARat.cells l.breaks) (cj (deqN_f h1) (cj (deqN_f h1) (cj (deqN_f h1) (cj (o_len (lcell ARat.cells) l.pieces) (cj (deqN_f h1) (cj (deqN_f h1) (cj (dneN_t h2) True.intro)))))))))))) (by kernel_rfl))
theorem e2(l:ALaw)(h1:l.breaks.length≠0)(h2:l.breaks.length=l.pieces.length)(h3:16<l.breaks.length):Contract prg 15 [l.pv] (.iface 44 (vI 4)) :=
 Contract.ofL Tryz.func15 (by kernel_rfl) (L.done mixed tabOk (n:=99) (ns:=[1,1,1,1,1,1,1,1,1,1,1,1,1,1]) (tr:=[.reg [],.reg [.none,.none,(iI (l.breaks.length:Int)),.none,.none,.none,.none,(iI (l.breaks.length:Int)),.none,.none,(iI (l.pieces.length:Int)),.none,(.dec false)],.dec false,.reg [.none,.none,(iI (l.breaks.length:Int))],.dec true,.reg []]) (cj (o_len ARat.cells l.breaks) (cj (deqN_f h1) (cj (deqN_f h1) (cj (deqN_f h1) (cj (o_len ARat.cells l.breaks) (cj (deqN_f h1) (cj (deqN_f h1) (cj (deqN_f h1) (cj (o_len (lcell ARat.cells) l.pieces) (cj (deqN_f h1) (cj (deqN_f h1) (cj (dneN_f h2) (cj (o_len ARat.cells l.breaks) (cj (dltN_t h3) True.intro)))))))))))))) (by kernel_rfl))
theorem e3(l:ALaw){r:PV}(h1:l.breaks.length≠0)(h2:l.breaks.length=l.pieces.length)(h3:l.breaks.length≤16)(hL:Loop1 l 0 r):Contract prg 15 [l.pv] r :=
 Contract.ofL Tryz.func15 (by kernel_rfl) (L.go mixed tabOk (n:=111) (ns:=[1,1,1,1,1,1,1,1,1,1,1,1,1,1,1]) (tr:=[.reg [],.reg [.none,.none,(iI (l.breaks.length:Int)),.none,.none,.none,.none,(iI (l.breaks.length:Int)),.none,.none,(iI (l.pieces.length:Int)),.none,(.dec false)],.dec false,.reg [.none,.none,(iI (l.breaks.length:Int))],.dec false,.reg [.none,.none,(iI (l.breaks.length:Int))],.keep [1,28,29,30]]) (cj (o_len ARat.cells l.breaks) (cj (deqN_f h1) (cj (deqN_f h1) (cj (deqN_f h1) (cj (o_len ARat.cells l.breaks) (cj (deqN_f h1) (cj (deqN_f h1) (cj (deqN_f h1) (cj (o_len (lcell ARat.cells) l.pieces) (cj (deqN_f h1) (cj (deqN_f h1) (cj (dneN_f h2) (cj (o_len ARat.cells l.breaks) (cj (dltN_f h3) (cj (o_len ARat.cells l.breaks) True.intro))))))))))))))) (by kernel_rfl) hL)
theorem l10(l:ALaw)(t_30:Nat)(v:ARat)(val:Bool)(h1:t_30<l.breaks.length)(h2:l.breaks[t_30]? = some v)(h3:Contract prg 28 [v.pv] (vB val))(h4:val=false):Loop1 l t_30 (.iface 44 (vI 3)) :=
 L.done mixed tabOk (n:=159) (ns:=[1,3,1,1,1,1,1,1,1,1,1]) (tr:=[.auto,.reg [],.dec true,.reg [.none,(.row t_30 (ARat.cells v))],dr 14 0 [.none,(.pv (vB val)),.none,.none,.skip,.skip,.skip,(.dec true),.none,.skip,.skip,.skip,.skip],.auto,.reg []]) (cj (dltN_t h1) (cj (o_at ARat.cells (Eq.refl (((t_30:Nat):Int):Int)) h2) (cj h3 (cj (bnot_t h4) (cj (bnot_t h4) (cj (bnot_t h4) (cj (bnot_t h4) (cj (Eq.refl true) (cj (Eq.refl true) (cj (Eq.refl true) (cj (Eq.refl true) True.intro))))))))))) (by kernel_rfl)
theorem l11(l:ALaw)(t_30:Nat)(v:ARat)(val:Bool)(sig:Int)(h1:t_30<l.breaks.length)(h2:l.breaks[t_30]? = some v)(h3:Contract prg 28 [v.pv] (vB val))(h4:val=true)(h5:Contract prg 54 [v.pv] (vI sig))(h6:sig<0):Loop1 l t_30 (.iface 44 (vI 3)) :=
 L.done mixed tabOk (n:=159) (ns:=[1,3,1,1,1,1,1,1,1,1,1,1,1]) (tr:=[.auto,.reg [],.dec true,.reg [.none,(.row t_30 (ARat.cells v))],dr 14 0 [.none,(.pv (vB val)),.none,.none,.none,(.pv (vI sig)),.none,(.dec false),.none,.skip,.skip,.skip,.skip,(.dec true)],.auto,.reg []]) (cj (dltN_t h1) (cj (o_at ARat.cells (Eq.refl (((t_30:Nat):Int):Int)) h2) (cj h3 (cj (bnot_f h4) (cj (bnot_f h4) (cj h5 (cj (bnot_f h4) (cj (bnot_f h4) (cj (dlt_t h6) (cj (dlt_t h6) (cj (dlt_t h6) (cj (dlt_t h6) (cj (dlt_t h6) True.intro))))))))))))) (by kernel_rfl)
theorem l12(l:ALaw)(t_30:Nat)(v:ARat)(val:Bool)(sig:Int)(one:ARat)(cmp:Int)(h1:t_30<l.breaks.length)(h2:l.breaks[t_30]? = some v)(h3:Contract prg 28 [v.pv] (vB val))(h4:val=true)(h5:Contract prg 54 [v.pv] (vI sig))(h6:0≤sig)(h7:Contract prg 37 [] one.pv)(h8:Contract prg 32 [v.pv,one.pv] (vI cmp))(h9:0≤cmp):Loop1 l t_30 (.iface 44 (vI 3)) :=
 L.done mixed tabOk (n:=159) (ns:=[1,3,1,1,1,1,1,1,1,1,1,1,1,1,1,1]) (tr:=[.auto,.reg [],.dec true,.reg [.none,(.row t_30 (ARat.cells v))],dr 14 0 [.none,(.pv (vB val)),.none,.none,.none,(.pv (vI sig)),.none,(.dec false),.none,.none,(.pv one.pv),(.pv (vI cmp)),.none,(.dec false)],.dec true,.reg []]) (cj (dltN_t h1) (cj (o_at ARat.cells (Eq.refl (((t_30:Nat):Int):Int)) h2) (cj h3 (cj (bnot_f h4) (cj (bnot_f h4) (cj h5 (cj (bnot_f h4) (cj (bnot_f h4) (cj (dlt_f h6) (cj (dlt_f h6) (cj h7 (cj (dlt_f h6) (cj h8 (cj (dlt_f h6) (cj (dlt_f h6) (cj (dle_t h9) True.intro)))))))))))))))) (by kernel_rfl)
theorem l13(l:ALaw)(t_30:Nat)(v:ARat)(val:Bool)(sig:Int)(one:ARat)(cmp sig1:Int)(h1:t_30<l.breaks.length)(h2:l.breaks[t_30]? = some v)(h3:Contract prg 28 [v.pv] (vB val))(h4:val=true)(h5:Contract prg 54 [v.pv] (vI sig))(h6:0≤sig)(h7:Contract prg 37 [] one.pv)(h8:Contract prg 32 [v.pv,one.pv] (vI cmp))(h9:cmp<0)(h10:t_30=0)(h11:Contract prg 54 [v.pv] (vI sig1))(h12:sig1≠0):Loop1 l t_30 (.iface 44 (vI 12)) :=
 L.done mixed tabOk (n:=171) (ns:=[1,3,1,1,1,1,1,1,1,1,1,1,1,1,1,1,1,1,1,1,1,1,1,1,1,1]) (tr:=[.auto,.reg [],.dec true,.reg [.none,(.row t_30 (ARat.cells v))],dr 14 0 [.none,(.pv (vB val)),.none,.none,.none,(.pv (vI sig)),.none,(.dec false),.none,.none,(.pv one.pv),(.pv (vI cmp)),.none,(.dec false)],.dec false,dr 22 0 [.none,.none,.none,.none,(.pv (vI sig1)),.none,(.dec true),.none,.skip,.skip,.skip,.skip,.skip,.skip,.skip,.skip,.skip,.skip,.skip,.skip,.skip,(.dec true)],.auto,.reg []]) (cj (dltN_t h1) (cj (o_at ARat.cells (Eq.refl (((t_30:Nat):Int):Int)) h2) (cj h3 (cj (bnot_f h4) (cj (bnot_f h4) (cj h5 (cj (bnot_f h4) (cj (bnot_f h4) (cj (dlt_f h6) (cj (dlt_f h6) (cj h7 (cj (dlt_f h6) (cj h8 (cj (dlt_f h6) (cj (dlt_f h6) (cj (dle_f h9) (cj (deqN_t h10) (cj (deqN_t h10) (cj h11 (cj (deqN_t h10) (cj (deqN_t h10) (cj (dne_t h12) (cj (dne_t h12) (cj (dne_t h12) (cj (dne_t h12) (cj (dne_t h12) True.intro)))))))))))))))))))))))))) (by kernel_rfl)
theorem l16(l:ALaw)(t_30:Nat)(v:ARat)(val:Bool)(sig:Int)(one:ARat)(cmp sig1:Int){r:PV}(h1:t_30<l.breaks.length)(h2:l.breaks[t_30]? = some v)(h3:Contract prg 28 [v.pv] (vB val))(h4:val=true)(h5:Contract prg 54 [v.pv] (vI sig))(h6:0≤sig)(h7:Contract prg 37 [] one.pv)(h8:Contract prg 32 [v.pv,one.pv] (vI cmp))(h9:cmp<0)(h10:t_30=0)(h11:Contract prg 54 [v.pv] (vI sig1))(h12:sig1=0)(h13:t_30≤0)(h14:(t_30+1)<9223372036854775808)(hL:Loop1 l (t_30+1) r):Loop1 l t_30 r :=
 L.go mixed tabOk (n:=174) (ns:=[1,3,1,1,1,1,1,1,1,1,1,1,1,1,1,1,1,1,1,1,1,1,1,1,1,1,1,1,1,1,1,1,1,1,1,1,1]) (tr:=[.auto,.reg [],.dec true,.reg [.none,(.row t_30 (ARat.cells v))],dr 14 0 [.none,(.pv (vB val)),.none,.none,.none,(.pv (vI sig)),.none,(.dec false),.none,.none,(.pv one.pv),(.pv (vI cmp)),.none,(.dec false)],.dec false,dr 22 0 [.none,.none,.none,.none,(.pv (vI sig1)),.none,(.dec true),.none,.none,.none,.none,.skip,.skip,.skip,.skip,.skip,.skip,.skip,.skip,.skip,(.dec false),(.dec false)],.auto,.reg [(iI (((t_30+1):Nat):Int))],.keep [1,28,29,30],.drop [4]]) (cj (dltN_t h1) (cj (o_at ARat.cells (Eq.refl (((t_30:Nat):Int):Int)) h2) (cj h3 (cj (bnot_f h4) (cj (bnot_f h4) (cj h5 (cj (bnot_f h4) (cj (bnot_f h4) (cj (dlt_f h6) (cj (dlt_f h6) (cj h7 (cj (dlt_f h6) (cj h8 (cj (dlt_f h6) (cj (dlt_f h6) (cj (dle_f h9) (cj (deqN_t h10) (cj (deqN_t h10) (cj h11 (cj (deqN_t h10) (cj (deqN_t h10) (cj (dne_f h12) (cj (dne_f h12) (cj (dne_f h12) (cj (dltN_f h13) (cj (dltN_f h13) (cj (dltN_f h13) (cj (dltN_f h13) (cj (dltN_f h13) (cj (dltN_f h13) (cj (dltN_f h13) (cj (dltN_f h13) (cj (dltN_f h13) (cj (dne_f h12) (cj (dltN_f h13) (cj (dne_f h12) (cj (bs_addN h14) True.intro))))))))))))))))))))))))))))))))))))) (by kernel_rfl) hL
theorem l17(l:ALaw)(t_30:Nat)(v:ARat)(val:Bool)(sig:Int)(one:ARat)(cmp:Int)(k:Nat)(v1:ARat)(cmp1:Int)(h1:t_30<l.breaks.length)(h2:l.breaks[t_30]? = some v)(h3:Contract prg 28 [v.pv] (vB val))(h4:val=true)(h5:Contract prg 54 [v.pv] (vI sig))(h6:0≤sig)(h7:Contract prg 37 [] one.pv)(h8:Contract prg 32 [v.pv,one.pv] (vI cmp))(h9:cmp<0)(h10:t_30≠0)(h11:0<t_30)(h12:InI64 ((t_30:Int)-1))(h13:((t_30:Int)-1)=(k:Int))(h14:l.breaks[k]? = some v1)(h15:Contract prg 32 [v.pv,v1.pv] (vI cmp1))(h16:cmp1≤0):Loop1 l t_30 (.iface 44 (vI 12)) :=
 L.done mixed tabOk (n:=171) (ns:=[1,3,1,1,1,1,1,1,1,1,1,1,1,1,1,1,1,1,1,1,1,1,1,1,1,1,1,1,1,1,3,1,1,1,1,1,1,1]) (tr:=[.auto,.reg [],.dec true,.reg [.none,(.row t_30 (ARat.cells v))],dr 14 0 [.none,(.pv (vB val)),.none,.none,.none,(.pv (vI sig)),.none,(.dec false),.none,.none,(.pv one.pv),(.pv (vI cmp)),.none,(.dec false)],.dec false,dr 22 0 [.none,.none,.none,.skip,.skip,.skip,(.dec false),.none,.none,.none,.none,.none,.none,.none,.none,(iI ((t_30:Int)-1)),(.row k (ARat.cells v1)),.none,(.pv (vI cmp1)),.none,(.dec true)],.dec true,.reg []]) (cj (dltN_t h1) (cj (o_at ARat.cells (Eq.refl (((t_30:Nat):Int):Int)) h2) (cj h3 (cj (bnot_f h4) (cj (bnot_f h4) (cj h5 (cj (bnot_f h4) (cj (bnot_f h4) (cj (dlt_f h6) (cj (dlt_f h6) (cj h7 (cj (dlt_f h6) (cj h8 (cj (dlt_f h6) (cj (dlt_f h6) (cj (dle_f h9) (cj (deqN_f h10) (cj (deqN_f h10) (cj (deqN_f h10) (cj (deqN_f h10) (cj (Eq.refl false) (cj (Eq.refl false) (cj (Eq.refl false) (cj (dltN_t h11) (cj (dltN_t h11) (cj (dltN_t h11) (cj (dltN_t h11) (cj (dltN_t h11) (cj (bs_sub h12) (cj (dltN_t h11) (cj (o_at ARat.cells h13 h14) (cj (dltN_t h11) (cj (dltN_t h11) (cj h15 (cj (dltN_t h11) (cj (Eq.refl false) (cj (dltN_t h11) (cj (dle_t h16) True.intro)))))))))))))))))))))))))))))))))))))) (by kernel_rfl)
theorem l18(l:ALaw)(t_30:Nat)(v:ARat)(val:Bool)(sig:Int)(one:ARat)(cmp:Int)(k:Nat)(v1:ARat)(cmp1:Int){r:PV}(h1:t_30<l.breaks.length)(h2:l.breaks[t_30]? = some v)(h3:Contract prg 28 [v.pv] (vB val))(h4:val=true)(h5:Contract prg 54 [v.pv] (vI sig))(h6:0≤sig)(h7:Contract prg 37 [] one.pv)(h8:Contract prg 32 [v.pv,one.pv] (vI cmp))(h9:cmp<0)(h10:t_30≠0)(h11:0<t_30)(h12:InI64 ((t_30:Int)-1))(h13:((t_30:Int)-1)=(k:Int))(h14:l.breaks[k]? = some v1)(h15:Contract prg 32 [v.pv,v1.pv] (vI cmp1))(h16:0<cmp1)(h17:(t_30+1)<9223372036854775808)(hL:Loop1 l (t_30+1) r):Loop1 l t_30 r :=
 L.go mixed tabOk (n:=174) (ns:=[1,3,1,1,1,1,1,1,1,1,1,1,1,1,1,1,1,1,1,1,1,1,1,1,1,1,1,1,1,1,3,1,1,1,1,1,1,1,1]) (tr:=[.auto,.reg [],.dec true,.reg [.none,(.row t_30 (ARat.cells v))],dr 14 0 [.none,(.pv (vB val)),.none,.none,.none,(.pv (vI sig)),.none,(.dec false),.none,.none,(.pv one.pv),(.pv (vI cmp)),.none,(.dec false)],.dec false,dr 22 0 [.none,.none,.none,.skip,.skip,.skip,(.dec false),.none,.none,.none,.none,.none,.none,.none,.none,(iI ((t_30:Int)-1)),(.row k (ARat.cells v1)),.none,(.pv (vI cmp1)),.none,(.dec true)],.dec false,.reg [(iI (((t_30+1):Nat):Int))],.keep [1,28,29,30],.drop [4]]) (cj (dltN_t h1) (cj (o_at ARat.cells (Eq.refl (((t_30:Nat):Int):Int)) h2) (cj h3 (cj (bnot_f h4) (cj (bnot_f h4) (cj h5 (cj (bnot_f h4) (cj (bnot_f h4) (cj (dlt_f h6) (cj (dlt_f h6) (cj h7 (cj (dlt_f h6) (cj h8 (cj (dlt_f h6) (cj (dlt_f h6) (cj (dle_f h9) (cj (deqN_f h10) (cj (deqN_f h10) (cj (deqN_f h10) (cj (deqN_f h10) (cj (Eq.refl false) (cj (Eq.refl false) (cj (Eq.refl false) (cj (dltN_t h11) (cj (dltN_t h11) (cj (dltN_t h11) (cj (dltN_t h11) (cj (dltN_t h11) (cj (bs_sub h12) (cj (dltN_t h11) (cj (o_at ARat.cells h13 h14) (cj (dltN_t h11) (cj (dltN_t h11) (cj h15 (cj (dltN_t h11) (cj (Eq.refl false) (cj (dltN_t h11) (cj (dle_f h16) (cj (bs_addN h17) True.intro))))))))))))))))))))))))))))))))))))))) (by kernel_rfl) hL
theorem l110(l:ALaw)(t_30:Nat){r:PV}(h1:l.breaks.length≤t_30)(hL:Loop2 l 0 r):Loop1 l t_30 r :=
 L.go mixed tabOk (n:=153) (ns:=[1,1]) (tr:=[.auto,.reg [],.dec false,.reg [.none,.none,(iI (l.pieces.length:Int))],.keep [75,76,77],.drop [1]]) (cj (dltN_f h1) (cj (o_len (lcell ARat.cells) l.pieces) True.intro)) (by kernel_rfl) hL
theorem l20(l:ALaw)(t_77:Nat)(v:List ARat)(deg:Int)(h1:t_77<l.pieces.length)(h2:l.pieces[t_77]? = some v)(h3:Contract prg 55 [(polyPV v)] .nilI)(h4:Contract prg 56 [(polyPV v)] (vI deg))(h5:8<deg):Loop2 l t_77 (.iface 44 (vI 4)) :=
 L.done mixed tabOk (n:=219) (ns:=[1,3,1,1,1]) (tr:=[.auto,.reg [],.dec true,.reg [(.row t_77 ((lcell ARat.cells) v))],.reg [.none,(.pv .nilI)],.reg [],.auto,.reg [.none,(.pv (vI deg))],.dec true,.reg []]) (cj (dltN_t h1) (cj (o_at (lcell ARat.cells) (Eq.refl (((t_77:Nat):Int):Int)) h2) (cj h3 (cj h4 (cj (dlt_t h5) True.intro))))) (by kernel_rfl)
theorem l21(l:ALaw)(t_77:Nat)(v:List ARat)(deg:Int){r:PV}(h1:t_77<l.pieces.length)(h2:l.pieces[t_77]? = some v)(h3:Contract prg 55 [(polyPV v)] .nilI)(h4:Contract prg 56 [(polyPV v)] (vI deg))(h5:deg≤8)(h6:(t_77+1)<9223372036854775808)(hL:Loop2 l (t_77+1) r):Loop2 l t_77 r :=
 L.go mixed tabOk (n:=222) (ns:=[1,3,1,1,1,1]) (tr:=[.auto,.reg [],.dec true,.reg [(.row t_77 ((lcell ARat.cells) v))],.reg [.none,(.pv .nilI)],.reg [],.auto,.reg [.none,(.pv (vI deg))],.dec false,.reg [(iI (((t_77+1):Nat):Int))],.keep [75,76,77]]) (cj (dltN_t h1) (cj (o_at (lcell ARat.cells) (Eq.refl (((t_77:Nat):Int):Int)) h2) (cj h3 (cj h4 (cj (dlt_f h5) (cj (bs_addN h6) True.intro)))))) (by kernel_rfl) hL
theorem l22(l:ALaw)(t_77:Nat)(v:List ARat)(che:Int)(h1:t_77<l.pieces.length)(h2:l.pieces[t_77]? = some v)(h3:Contract prg 55 [(polyPV v)] (.iface 44 (vI che))):Loop2 l t_77 (.iface 44 (vI che)) :=
 L.done mixed tabOk (n:=207) (ns:=[1,3,1]) (tr:=[.auto,.reg [],.dec true,.reg [(.row t_77 ((lcell ARat.cells) v))],.reg [.none,(.pv (.iface 44 (vI che)))],.reg [],.auto,.reg []]) (cj (dltN_t h1) (cj (o_at (lcell ARat.cells) (Eq.refl (((t_77:Nat):Int):Int)) h2) (cj h3 True.intro))) (by kernel_rfl)
theorem l23(l:ALaw)(t_77:Nat)(h1:l.pieces.length≤t_77):Loop2 l t_77 .nilI :=
 L.done mixed tabOk (n:=186) (ns:=[1]) (tr:=[.auto,.reg [],.dec false,.reg []]) (cj (dltN_f h1) True.intro) (by kernel_rfl)
end law_Check
namespace law_At
theorem e1(l:ALaw)(x:ARat)(val:Bool)(wra:ARat)(pie:Int)(k:Nat)(v:List ARat)(k1:Nat)(v1 sub eva:ARat)(eva1:Option Int)(h1:Contract prg 15 [l.pv] .nilI)(h2:Contract prg 28 [x.pv] (vB val))(h3:val=true)(h4:Contract prg 29 [x.pv] (.tup [wra.pv,.nilI]))(h5:Contract prg 35 [l.pv,wra.pv] (vI pie))(h6:pie=(k:Int))(h7:l.pieces[k]? = some v)(h8:pie=(k1:Int))(h9:l.breaks[k1]? = some v1)(h10:Contract prg 34 [wra.pv,v1.pv] sub.pv)(h11:Contract prg 57 [(polyPV v),sub.pv] (.tup [eva.pv,(errPV eva1)])):Contract prg 18 [l.pv,x.pv] (.tup [eva.pv,(errPV eva1)]) :=
 Contract.ofL Tryz.func18 (by kernel_rfl) (L.done mixed tabOk (n:=135) (ns:=[1,1,1,1,1,3,3,1,1]) (tr:=[.reg [],.reg [.none,(.pv .nilI)],.reg [],.auto,.reg [.none,(.pv (vB val))],.dec false,.reg [.none,(.pv (.tup [wra.pv,.nilI]))],.reg [],.auto,.reg [.none,.none,(.pv (vI pie))],dr 15 2 [.none,.none,.none,(.row k ((lcell ARat.cells) v)),.none,.none,.none,.none,.none,(.row k1 (ARat.cells v1)),.none,(.pv sub.pv),(.pv (.tup [eva.pv,(errPV eva1)]))]]) (cj h1 (cj h2 (cj (bnot_f h3) (cj h4 (cj h5 (cj (o_at (lcell ARat.cells) h6 h7) (cj (o_at ARat.cells h8 h9) (cj h10 (cj h11 True.intro))))))))) (by kernel_rfl))
end law_At
namespace law_Smooth
@[reducible] noncomputable def fn:Func:=Tryz.f21
noncomputable def atK1:List Itm:=focus [0,2,0,0,2,0,2,1,2,0,0,2,1,2,0,0,2,0,0] [.code (bodyOf fn)]
def inv1(k:Int)(t_23:Nat)(site_2:ALaw):St:=⟨[(2,(.ptr 2 0)),(22,(eI (k+1))),(23,(eI (t_23:Int)))],[(2,(.lit [(.pv (polyPV site_2.breaks)),(.pv (lpv (lcell ARat.cells) site_2.pieces))]))]⟩
@[reducible] noncomputable def Loop1(k:Int)(t_23:Nat)(site_2:ALaw)(r:PV):Prop:=L prg fn atK1 (inv1 k t_23 site_2) r
theorem e2(l:ALaw)(k:Int){r:PV}(h1:Contract prg 15 [l.pv] .nilI)(h2:0≤k)(h3:k≤8)(h4:InI64 (k+1))(hL:Loop1 k 0 l r):Contract prg 21 [l.pv,(vI k)] r :=
 Contract.ofL Tryz.func21 (by kernel_rfl) (L.go mixed tabOk (n:=117) (ns:=[1,1,1,1,1,1]) (tr:=[.reg [],.reg [.none,(.pv .nilI)],.reg [],.auto,.reg [.none,.none,.none,.none,.none,(.dec false)],.dec false,.reg [.none,(iI (k+1))],.keep [2,22,23]]) (cj h1 (cj (dlt_f h2) (cj (dlt_f h2) (cj (dlt_f h2) (cj (dlt_f h3) (cj (bs_add h4) True.intro)))))) (by kernel_rfl) hL)
theorem l10(k:Int)(t_23:Nat)(site_2:ALaw)(joi:Bool)(h1:(t_23:Int)<(k+1))(h2:Contract prg 63 [site_2.pv] (.tup [(vB joi),.nilI]))(h3:joi=false):Loop1 k t_23 site_2 (.tup [(vB false),.nilI]) :=
 L.done mixed tabOk (n:=165) (ns:=[1,1,1,1,1]) (tr:=[.auto,.reg [],.dec true,.reg [.none,(.pv (.tup [(vB joi),.nilI]))],.reg [],.dec true,.reg []]) (cj (dlt_t h1) (cj h2 (cj (Eq.refl false) (cj (Eq.refl false) (cj (bnot_t h3) True.intro))))) (by kernel_rfl)
theorem l11(k:Int)(t_23:Nat)(site_2:ALaw)(joi:Bool)(der:ALaw){r:PV}(h1:(t_23:Int)<(k+1))(h2:Contract prg 63 [site_2.pv] (.tup [(vB joi),.nilI]))(h3:joi=true)(h4:Contract prg 22 [site_2.pv] (.tup [der.pv,.nilI]))(h5:(t_23+1)<9223372036854775808)(hL:Loop1 k (t_23+1) der r):Loop1 k t_23 site_2 r :=
 L.go mixed tabOk (n:=186) (ns:=[1,1,1,1,1,1,1]) (tr:=[.auto,.reg [],.dec true,.reg [.none,(.pv (.tup [(vB joi),.nilI]))],.reg [],.dec false,.reg [.none,(.pv (.tup [der.pv,.nilI]))],.reg [],.auto,.reg [(iI (((t_23+1):Nat):Int))],.keep [2,22,23]]) (cj (dlt_t h1) (cj h2 (cj (Eq.refl false) (cj (Eq.refl false) (cj (bnot_f h3) (cj h4 (cj (bs_addN h5) True.intro))))))) (by kernel_rfl) hL
theorem l14(k:Int)(t_23:Nat)(site_2:ALaw)(h1:(k+1)≤(t_23:Int)):Loop1 k t_23 site_2 (.tup [(vB true),.nilI]) :=
 L.done mixed tabOk (n:=150) (ns:=[1]) (tr:=[.auto,.reg [],.dec false,.reg []]) (cj (dlt_f h1) True.intro) (by kernel_rfl)
end law_Smooth
namespace law_Derive
@[reducible] noncomputable def fn:Func:=Tryz.f22
noncomputable def atK1:List Itm:=focus [0,2,0,0,2,0,2,1,2,0,2,0,0,2,0,0] [.code (bodyOf fn)]
def inv1(l:ALaw)(t_19:Nat)(site_43:List ARat)(site_49:List (List ARat)):St:=⟨[(1,(.ptr 1 0)),(2,(.ptr 2 0)),(5,(.ptr 5 0)),(17,(.pv (lpv (lcell ARat.cells) l.pieces))),(18,(eI (l.pieces.length:Int))),(19,(eI (t_19:Int)))],[(1,(.lit [(.pv (polyPV l.breaks)),(.pv (lpv (lcell ARat.cells) l.pieces))])),(2,(.lit [(.pv (.list [])),(.pv (.list []))])),(5,(.lit [(.row 43 0 site_43.length 3),(.row 49 0 site_49.length 1)])),(43,(.pure ((site_43:List ARat).map ARat.cells).flatten)),(49,(.pure ((site_49:List (List ARat)).map (lcell ARat.cells)).flatten))]⟩
@[reducible] noncomputable def Loop1(l:ALaw)(t_19:Nat)(site_43:List ARat)(site_49:List (List ARat))(r:PV):Prop:=L prg fn atK1 (inv1 l t_19 site_43 site_49) r
theorem e0(l:ALaw){r:PV}(h1:Contract prg 15 [l.pv] .nilI)(hL:Loop1 l 0 [] [] r):Contract prg 22 [l.pv] r :=
 Contract.ofL Tryz.func22 (by kernel_rfl) (L.go mixed tabOk (n:=108) (ns:=[1,1]) (tr:=[.reg [],.reg [.none,(.pv .nilI)],.reg [],.auto,.reg [.nil],.adoptC 5 0 43 3,.adoptC 5 1 49 1,.reg [.none,.none,(iI (l.pieces.length:Int))],.keep [1,2,5,17,18,19],.ord [1,2,5,43,49]]) (cj h1 (cj (o_len (lcell ARat.cells) l.pieces) True.intro)) (by kernel_rfl) hL)
theorem l10(l:ALaw)(t_19:Nat)(site_43:List ARat)(site_49:List (List ARat))(v der:List ARat)(v1 add:ARat){r:PV}(h1:t_19<l.pieces.length)(h2:l.pieces[t_19]? = some v)(h3:Contract prg 64 [(polyPV v)] (.tup [(polyPV der),.nilI]))(h4:l.breaks[t_19]? = some v1)(h5:Contract prg 19 [v1.pv,(⟨false,[],[]⟩:ARat).pv] add.pv)(h6:((site_43++[add]):List ARat).length*56≤140737488355328)(h7:((site_49++[der]):List (List ARat)).length*24≤140737488355328)(h8:(t_19+1)<9223372036854775808)(hL:Loop1 l (t_19+1) (site_43++[add]) (site_49++[der]) r):Loop1 l t_19 site_43 site_49 r :=
 L.go mixed tabOk (n:=174) (ns:=[1,3,1,3,1,6,6,1]) (tr:=[.auto,.reg [],.dec true,.reg [.none,(.row t_19 ((lcell ARat.cells) v))],.reg [.none,(.pv (.tup [(polyPV der),.nilI]))],.reg [],.auto,dr 10 3 [.none,.none,.none,.none,.none,(.row t_19 (ARat.cells v1)),.none,.none,(.pv add.pv),.none,(.app ((site_43++[add]):List ARat).length (((site_43++[add]):List ARat).map ARat.cells).flatten)],.reg [.none,.none,.none,.none,(.app ((site_49++[der]):List (List ARat)).length (((site_49++[der]):List (List ARat)).map (lcell ARat.cells)).flatten)],.reg [(iI (((t_19+1):Nat):Int))],.keep [1,2,5,17,18,19],.drop [48,42],.ord [1,2,5,43,49]]) (cj (dltN_t h1) (cj (o_at (lcell ARat.cells) (Eq.refl (((t_19:Nat):Int):Int)) h2) (cj h3 (cj (o_at ARat.cells (Eq.refl (((t_19:Nat):Int):Int)) h4) (cj h5 (cj (o_appR sz_ARat (site_43:List ARat) ([add]:List ARat) 56 (Eq.refl (site_43:List ARat).length) (Eq.refl ([add]:List ARat).length) h6 rfl) (cj (o_appR (sz_l ARat.cells) (site_49:List (List ARat)) ([der]:List (List ARat)) 24 (Eq.refl (site_49:List (List ARat)).length) (Eq.refl ([der]:List (List ARat)).length) h7 rfl) (cj (bs_addN h8) True.intro)))))))) (by kernel_rfl) hL
theorem l12(l:ALaw)(t_19:Nat)(site_43:List ARat)(site_49:List (List ARat))(h1:l.pieces.length≤t_19):Loop1 l t_19 site_43 site_49 (.tup [(⟨site_43,site_49⟩:ALaw).pv,.nilI]) :=
 L.done mixed tabOk (n:=141) (ns:=[1,3,3]) (tr:=[.auto,.reg [],.dec false,.frzC 5 0 ((site_43:List ARat).map ARat.cells),.frzC 5 1 ((site_49:List (List ARat)).map (lcell ARat.cells)),.reg []]) (cj (dltN_f h1) (cj (o_frz sz_ARat (site_43:List ARat) (Eq.refl (site_43:List ARat).length)) (cj (o_frz (sz_l ARat.cells) (site_49:List (List ARat)) (Eq.refl (site_49:List (List ARat)).length)) True.intro))) (by kernel_rfl)
end law_Derive
namespace law_Dwells
@[reducible] noncomputable def fn:Func:=Tryz.f25
noncomputable def atK1:List Itm:=focus [0,2,0,0,2,0,2,1,2,0,2,0,2,0,0,2,0,0] [.code (bodyOf fn)]
def inv1(len_62:Nat)(open_6:Bool)(l:ALaw)(t_17:Nat)(site_62:List AArc):St:=⟨[(1,(.ptr 1 0)),(5,(.row 62 0 len_62 6)),(6,(eB open_6)),(15,(.pv (lpv (lcell ARat.cells) l.pieces))),(16,(eI (l.pieces.length:Int))),(17,(eI (t_17:Int)))],[(1,(.lit [(.pv (polyPV l.breaks)),(.pv (lpv (lcell ARat.cells) l.pieces))])),(62,(.pure ((site_62:List AArc).map AArc.cells).flatten))]⟩
@[reducible] noncomputable def Loop1(len_62:Nat)(open_6:Bool)(l:ALaw)(t_17:Nat)(site_62:List AArc)(r:PV):Prop:=L prg fn atK1 (inv1 len_62 open_6 l t_17 site_62) r
theorem e0(l:ALaw){r:PV}(h1:Contract prg 15 [l.pv] .nilI)(hL:Loop1 0 false l 0 [] r):Contract prg 25 [l.pv] r :=
 Contract.ofL Tryz.func25 (by kernel_rfl) (L.go mixed tabOk (n:=114) (ns:=[1,1]) (tr:=[.reg [],.reg [.none,(.pv .nilI)],.reg [],.auto,.reg [.nil],.adopt 5 62 6,.reg [],.reg [.none,.none,(iI (l.pieces.length:Int))],.keep [1,5,6,15,16,17],.ord [1,62]]) (cj h1 (cj (o_len (lcell ARat.cells) l.pieces) True.intro)) (by kernel_rfl) hL)
theorem l10(len_62:Nat)(open_6:Bool)(l:ALaw)(t_17:Nat)(site_62:List AArc)(v:List ARat){r:PV}(h1:t_17<l.pieces.length)(h2:l.pieces[t_17]? = some v)(h3:1<v.length)(h4:(t_17+1)<9223372036854775808)(hL:Loop1 len_62 false l (t_17+1) site_62 r):Loop1 len_62 open_6 l t_17 site_62 r :=
 L.go mixed tabOk (n:=174) (ns:=[1,3,1,1,1]) (tr:=[.auto,.reg [],.dec true,.reg [.none,(.row t_17 ((lcell ARat.cells) v))],.reg [.none,(iI (v.length:Int))],.dec true,.reg [],.reg [(iI (((t_17+1):Nat):Int))],.keep [1,5,6,15,16,17]]) (cj (dltN_t h1) (cj (o_at (lcell ARat.cells) (Eq.refl (((t_17:Nat):Int):Int)) h2) (cj (o_len ARat.cells v) (cj (dltN_t h3) (cj (bs_addN h4) True.intro))))) (by kernel_rfl) hL
theorem l13(len_62:Nat)(open_6:Bool)(l:ALaw)(t_17:Nat)(site_62:List AArc)(v:List ARat)(v1 add endV add1:ARat){r:PV}(h1:t_17<l.pieces.length)(h2:l.pieces[t_17]? = some v)(h3:v.length≤1)(h4:open_6=false)(h5:l.breaks[t_17]? = some v1)(h6:Contract prg 19 [v1.pv,(⟨false,[],[]⟩:ARat).pv] add.pv)(h7:Contract prg 67 [l.pv,(vI (t_17:Int))] endV.pv)(h8:Contract prg 19 [endV.pv,(⟨false,[],[]⟩:ARat).pv] add1.pv)(h9:site_62.length=len_62)(h10:((site_62++[(⟨add,add1⟩:AArc)]):List AArc).length*112≤140737488355328)(h11:(t_17+1)<9223372036854775808)(hL:Loop1 ((site_62++[(⟨add,add1⟩:AArc)]).length) true l (t_17+1) (site_62++[(⟨add,add1⟩:AArc)]) r):Loop1 len_62 open_6 l t_17 site_62 r :=
 L.go mixed tabOk (n:=183) (ns:=[1,3,1,1,1,1,1,1,1,1,1,1,1,3,1,1,1,6,1]) (tr:=[.auto,.reg [],.dec true,.reg [.none,(.row t_17 ((lcell ARat.cells) v))],.reg [.none,(iI (v.length:Int))],.dec false,.reg [.none,.none,.skip,.skip,.skip,.skip,.skip,.skip,.skip,.skip,(.dec false)],.auto,dr 15 2 [.none,.none,.none,.none,(.row t_17 (ARat.cells v1)),.none,.none,(.pv add.pv),.none,.none,(.pv endV.pv),.none,(.pv add1.pv),.none,.none,(.app ((site_62++[(⟨add,add1⟩:AArc)]):List AArc).length (((site_62++[(⟨add,add1⟩:AArc)]):List AArc).map AArc.cells).flatten)],.reg [],.reg [(iI (((t_17+1):Nat):Int))],.keep [1,5,6,15,16,17],.drop [61],.ord [1,62]]) (cj (dltN_t h1) (cj (o_at (lcell ARat.cells) (Eq.refl (((t_17:Nat):Int):Int)) h2) (cj (o_len ARat.cells v) (cj (dltN_f h3) (cj h4 (cj h4 (cj h4 (cj h4 (cj h4 (cj h4 (cj h4 (cj h4 (cj h4 (cj (o_at ARat.cells (Eq.refl (((t_17:Nat):Int):Int)) h5) (cj h6 (cj h7 (cj h8 (cj (o_appR sz_AArc (site_62:List AArc) ([(⟨add,add1⟩:AArc)]:List AArc) 112 h9 (Eq.refl ([(⟨add,add1⟩:AArc)]:List AArc).length) h10 rfl) (cj (bs_addN h11) True.intro))))))))))))))))))) (by kernel_rfl) hL
theorem l14(len_62:Nat)(open_6:Bool)(l:ALaw)(t_17:Nat)(site_62:List AArc)(h1:l.pieces.length≤t_17)(h2:len_62=site_62.length):Loop1 len_62 open_6 l t_17 site_62 (.tup [(lpv AArc.cells site_62),.nilI]) :=
 L.done mixed tabOk (n:=147) (ns:=[1,3]) (tr:=[.auto,.reg [],.dec false,.reg [],.frzT 2 ((site_62:List AArc).map AArc.cells)]) (cj (dltN_f h1) (cj (o_frz sz_AArc (site_62:List AArc) h2) True.intro)) (by kernel_rfl)
end law_Dwells
namespace law_Rise
@[reducible] noncomputable def fn:Func:=Tryz.f26
noncomputable def atK1:List Itm:=focus [0,2,0,0,2,1,2,0,2,0,0,2,0,0,2,0,2,2,0,2,0,2,0,0,2,1,2,0,2,0,2,0,0,2,0,0] [.code (bodyOf fn)]
def inv1(site_81:List ARat)(site_42:List Int)(t_63 t_64:Nat)(fromV sub div site_14:ARat):St:=⟨[(5,(.ptr 5 0)),(11,(.ptr 11 0)),(12,(.ptr 12 0)),(14,(.ptr 14 0)),(15,(.row 81 0 site_81.length 3)),(62,(.row 42 0 site_42.length 1)),(63,(eI (t_63:Int))),(64,(eI (t_64:Int)))],[(5,(.lit [(eB fromV.neg),(.pv (wordsPV fromV.num)),(.pv (wordsPV fromV.den))])),(11,(.lit [(eB sub.neg),(.pv (wordsPV sub.num)),(.pv (wordsPV sub.den))])),(12,(.lit [(eB div.neg),(.pv (wordsPV div.num)),(.pv (wordsPV div.den))])),(14,(.lit [(eB site_14.neg),(.pv (wordsPV site_14.num)),(.pv (wordsPV site_14.den))])),(42,(.pure ((site_42:List Int).map intCell).flatten)),(81,(.pure ((site_81:List ARat).map ARat.cells).flatten))]⟩
@[reducible] noncomputable def Loop1(site_81:List ARat)(site_42:List Int)(t_63 t_64:Nat)(fromV sub div site_14:ARat)(r:PV):Prop:=L prg fn atK1 (inv1 site_81 site_42 t_63 t_64 fromV sub div site_14) r
theorem e4(length fromV toV:ARat)(degree:Int)(val:Bool)(sig:Int)(val1 val2:Bool)(sub one div one1:ARat){r:PV}(h1:Contract prg 28 [length.pv] (vB val))(h2:val=true)(h3:Contract prg 54 [length.pv] (vI sig))(h4:0<sig)(h5:Contract prg 28 [fromV.pv] (vB val1))(h6:val1=true)(h7:Contract prg 28 [toV.pv] (vB val2))(h8:val2=true)(h9:degree=1)(h10:Contract prg 34 [toV.pv,fromV.pv] sub.pv)(h11:Contract prg 37 [] one.pv)(h12:Contract prg 68 [one.pv,length.pv] (.tup [div.pv,.nilI]))(h13:Contract prg 37 [] one1.pv)(hL:Loop1 [] [0,1] 2 0 fromV sub div one1 r):Contract prg 26 [length.pv,fromV.pv,toV.pv,(vI degree)] r :=
 Contract.ofL Tryz.func26 (by kernel_rfl) (L.go mixed tabOk (n:=168) (ns:=[1,1,1,1,1,1,1,1,1,1,1,1,1,1,1,1,1,1,1,1,1,1]) (tr:=[.reg [],.reg [.none,(.pv (vB val)),.none,.none,.none,(.pv (vI sig)),.none,(.dec false),.none,.none,(.pv (vB val1)),.none,(.dec false),.none,.none,(.pv (vB val2)),.none,(.dec false)],.dec false,.reg [],.reg [],.reg [],.dec true,.reg [],.reg [.none,.none,(.pv sub.pv)],dr 8 1 [(.pv one.pv),.none,(.pv (.tup [div.pv,.nilI]))],.reg [],.auto,.reg [(.pv one1.pv)],.reg [.nil],.adopt 15 81 3,.reg [],.keep [5,11,12,14,15,62,63,64],.drop [6,4],.ord [5,11,12,14,42,81]]) (cj h1 (cj (bnot_f h2) (cj (bnot_f h2) (cj h3 (cj (bnot_f h2) (cj (bnot_f h2) (cj (dle_f h4) (cj (dle_f h4) (cj h5 (cj (dle_f h4) (cj (dle_f h4) (cj (bnot_f h6) (cj (bnot_f h6) (cj h7 (cj (bnot_f h6) (cj (bnot_f h6) (cj (bnot_f h8) (cj (deq_t h9) (cj h10 (cj h11 (cj h12 (cj h13 True.intro)))))))))))))))))))))) (by kernel_rfl) hL)
theorem e6(length fromV toV:ARat)(degree:Int)(val:Bool)(sig:Int)(val1 val2:Bool)(sub one div one1:ARat){r:PV}(h1:Contract prg 28 [length.pv] (vB val))(h2:val=true)(h3:Contract prg 54 [length.pv] (vI sig))(h4:0<sig)(h5:Contract prg 28 [fromV.pv] (vB val1))(h6:val1=true)(h7:Contract prg 28 [toV.pv] (vB val2))(h8:val2=true)(h9:degree≠1)(h10:degree=3)(h11:Contract prg 34 [toV.pv,fromV.pv] sub.pv)(h12:Contract prg 37 [] one.pv)(h13:Contract prg 68 [one.pv,length.pv] (.tup [div.pv,.nilI]))(h14:Contract prg 37 [] one1.pv)(hL:Loop1 [] [0,0,3,(-2)] 4 0 fromV sub div one1 r):Contract prg 26 [length.pv,fromV.pv,toV.pv,(vI degree)] r :=
 Contract.ofL Tryz.func26 (by kernel_rfl) (L.go mixed tabOk (n:=177) (ns:=[1,1,1,1,1,1,1,1,1,1,1,1,1,1,1,1,1,1,1,1,1,1,1]) (tr:=[.reg [],.reg [.none,(.pv (vB val)),.none,.none,.none,(.pv (vI sig)),.none,(.dec false),.none,.none,(.pv (vB val1)),.none,(.dec false),.none,.none,(.pv (vB val2)),.none,(.dec false)],.dec false,.reg [],.reg [],.reg [],.dec false,.reg [],.dec true,.reg [],.reg [.none,.none,(.pv sub.pv)],dr 8 1 [(.pv one.pv),.none,(.pv (.tup [div.pv,.nilI]))],.reg [],.auto,.reg [(.pv one1.pv)],.reg [.nil],.adopt 15 81 3,.reg [],.keep [5,11,12,14,15,62,63,64],.drop [6,4],.ren 45 42,.ord [5,11,12,14,42,81]]) (cj h1 (cj (bnot_f h2) (cj (bnot_f h2) (cj h3 (cj (bnot_f h2) (cj (bnot_f h2) (cj (dle_f h4) (cj (dle_f h4) (cj h5 (cj (dle_f h4) (cj (dle_f h4) (cj (bnot_f h6) (cj (bnot_f h6) (cj h7 (cj (bnot_f h6) (cj (bnot_f h6) (cj (bnot_f h8) (cj (deq_f h9) (cj (deq_t h10) (cj h11 (cj h12 (cj h13 (cj h14 True.intro))))))))))))))))))))))) (by kernel_rfl) hL)
theorem e8(length fromV toV:ARat)(degree:Int)(val:Bool)(sig:Int)(val1 val2:Bool)(sub one div one1:ARat){r:PV}(h1:Contract prg 28 [length.pv] (vB val))(h2:val=true)(h3:Contract prg 54 [length.pv] (vI sig))(h4:0<sig)(h5:Contract prg 28 [fromV.pv] (vB val1))(h6:val1=true)(h7:Contract prg 28 [toV.pv] (vB val2))(h8:val2=true)(h9:degree≠1)(h10:degree≠3)(h11:degree=5)(h12:Contract prg 34 [toV.pv,fromV.pv] sub.pv)(h13:Contract prg 37 [] one.pv)(h14:Contract prg 68 [one.pv,length.pv] (.tup [div.pv,.nilI]))(h15:Contract prg 37 [] one1.pv)(hL:Loop1 [] [0,0,0,10,(-15),6] 6 0 fromV sub div one1 r):Contract prg 26 [length.pv,fromV.pv,toV.pv,(vI degree)] r :=
 Contract.ofL Tryz.func26 (by kernel_rfl) (L.go mixed tabOk (n:=186) (ns:=[1,1,1,1,1,1,1,1,1,1,1,1,1,1,1,1,1,1,1,1,1,1,1,1]) (tr:=[.reg [],.reg [.none,(.pv (vB val)),.none,.none,.none,(.pv (vI sig)),.none,(.dec false),.none,.none,(.pv (vB val1)),.none,(.dec false),.none,.none,(.pv (vB val2)),.none,(.dec false)],.dec false,.reg [],.reg [],.reg [],.dec false,.reg [],.dec false,.reg [],.dec true,.reg [],.reg [.none,.none,(.pv sub.pv)],dr 8 1 [(.pv one.pv),.none,(.pv (.tup [div.pv,.nilI]))],.reg [],.auto,.reg [(.pv one1.pv)],.reg [.nil],.adopt 15 81 3,.reg [],.keep [5,11,12,14,15,62,63,64],.drop [6,4],.ren 48 42,.ord [5,11,12,14,42,81]]) (cj h1 (cj (bnot_f h2) (cj (bnot_f h2) (cj h3 (cj (bnot_f h2) (cj (bnot_f h2) (cj (dle_f h4) (cj (dle_f h4) (cj h5 (cj (dle_f h4) (cj (dle_f h4) (cj (bnot_f h6) (cj (bnot_f h6) (cj h7 (cj (bnot_f h6) (cj (bnot_f h6) (cj (bnot_f h8) (cj (deq_f h9) (cj (deq_f h10) (cj (deq_t h11) (cj h12 (cj h13 (cj h14 (cj h15 True.intro)))))))))))))))))))))))) (by kernel_rfl) hL)
theorem l10(site_81:List ARat)(site_42:List Int)(t_63 t_64:Nat)(fromV sub div site_14:ARat)(v:Int)(of mul mul1 mul2:ARat){r:PV}(h1:t_64<t_63)(h2:t_64<site_42.length)(h3:site_42[t_64]? = some v)(h4:Contract prg 70 [(vI v)] of.pv)(h5:Contract prg 69 [of.pv,site_14.pv] mul.pv)(h6:Contract prg 69 [sub.pv,mul.pv] mul1.pv)(h7:t_64=0)(h8:((site_81++[fromV]):List ARat).length*56≤140737488355328)(h9:Contract prg 69 [site_14.pv,div.pv] mul2.pv)(h10:(t_64+1)<9223372036854775808)(hL:Loop1 (site_81++[fromV]) site_42 t_63 (t_64+1) fromV sub div mul2 r):Loop1 site_81 site_42 t_63 t_64 fromV sub div site_14 r :=
 L.go mixed tabOk (n:=234) (ns:=[1,2,1,1,1,1,1,6,1,1]) (tr:=[.auto,.reg [],.dec true,.reg [.none,(.nat t_64),(.ev (.pv (vI v)))],dr 7 1 [.none,.none,(.pv of.pv),.none,(.pv mul.pv),(.pv mul1.pv)],.reg [],.dec true,.reg [],.reg [.none,.none,.none,(.app ((site_81++[fromV]):List ARat).length (((site_81++[fromV]):List ARat).map ARat.cells).flatten)],.reg [.none,.none,(.pv mul2.pv)],.reg [(iI (((t_64+1):Nat):Int))],.keep [5,11,12,14,15,62,63,64],.drop [80,18],.ord [5,11,12,14,42,81]]) (cj (dltN_t h1) (cj (cj (Eq.refl (((t_64:Nat):Int):Int)) h2) (cj (o_get (enc:=intCell) (f:=fun a=>(vI a)) (fun _=>rfl) h3) (cj h4 (cj h5 (cj h6 (cj (deqN_t h7) (cj (o_appR sz_ARat (site_81:List ARat) ([fromV]:List ARat) 56 (Eq.refl (site_81:List ARat).length) (Eq.refl ([fromV]:List ARat).length) h8 rfl) (cj h9 (cj (bs_addN h10) True.intro)))))))))) (by kernel_rfl) hL
theorem l11(site_81:List ARat)(site_42:List Int)(t_63 t_64:Nat)(fromV sub div site_14:ARat)(v:Int)(of mul mul1 mul2:ARat){r:PV}(h1:t_64<t_63)(h2:t_64<site_42.length)(h3:site_42[t_64]? = some v)(h4:Contract prg 70 [(vI v)] of.pv)(h5:Contract prg 69 [of.pv,site_14.pv] mul.pv)(h6:Contract prg 69 [sub.pv,mul.pv] mul1.pv)(h7:t_64≠0)(h8:((site_81++[mul1]):List ARat).length*56≤140737488355328)(h9:Contract prg 69 [site_14.pv,div.pv] mul2.pv)(h10:(t_64+1)<9223372036854775808)(hL:Loop1 (site_81++[mul1]) site_42 t_63 (t_64+1) fromV sub div mul2 r):Loop1 site_81 site_42 t_63 t_64 fromV sub div site_14 r :=
 L.go mixed tabOk (n:=234) (ns:=[1,2,1,1,1,1,1,6,1,1]) (tr:=[.auto,.reg [],.dec true,.reg [.none,(.nat t_64),(.ev (.pv (vI v)))],dr 7 1 [.none,.none,(.pv of.pv),.none,(.pv mul.pv),(.pv mul1.pv)],.reg [],.dec false,.reg [.none,.none,.none,(.app ((site_81++[mul1]):List ARat).length (((site_81++[mul1]):List ARat).map ARat.cells).flatten)],.reg [.none,.none,(.pv mul2.pv)],.reg [(iI (((t_64+1):Nat):Int))],.keep [5,11,12,14,15,62,63,64],.drop [80,18],.ord [5,11,12,14,42,81]]) (cj (dltN_t h1) (cj (cj (Eq.refl (((t_64:Nat):Int):Int)) h2) (cj (o_get (enc:=intCell) (f:=fun a=>(vI a)) (fun _=>rfl) h3) (cj h4 (cj h5 (cj h6 (cj (deqN_f h7) (cj (o_appR sz_ARat (site_81:List ARat) ([mul1]:List ARat) 56 (Eq.refl (site_81:List ARat).length) (Eq.refl ([mul1]:List ARat).length) h8 rfl) (cj h9 (cj (bs_addN h10) True.intro)))))))))) (by kernel_rfl) hL
theorem l12(site_81:List ARat)(site_42:List Int)(t_63 t_64:Nat)(fromV sub div site_14:ARat)(tri:List ARat)(h1:t_63≤t_64)(h2:Contract prg 36 [(polyPV site_81)] (polyPV tri)):Loop1 site_81 site_42 t_63 t_64 fromV sub div site_14 (.tup [(polyPV tri),.nilI]) :=
 L.done mixed tabOk (n:=201) (ns:=[1,3,1]) (tr:=[.auto,.reg [],.dec false,.frzT 15 ((site_81:List ARat).map ARat.cells),.reg [.none,(.pv (polyPV tri))]]) (cj (dltN_f h1) (cj (o_frz sz_ARat (site_81:List ARat) (Eq.refl (site_81:List ARat).length)) (cj h2 True.intro))) (by kernel_rfl)
end law_Rise
namespace law_wrapped
theorem e0(x:ARat)(flo who:AWhole)(fro sub:ARat)(h1:Contract prg 76 [x.pv] flo.pv)(h2:Contract prg 77 [] who.pv)(h3:Contract prg 75 [flo.pv,who.pv] (.tup [fro.pv,.nilI]))(h4:Contract prg 34 [x.pv,fro.pv] sub.pv):Contract prg 29 [x.pv] (.tup [sub.pv,.nilI]) :=
 Contract.ofL Tryz.func29 (by kernel_rfl) (L.done mixed tabOk (n:=93) (ns:=[1,1,1,1]) (tr:=[.reg [],.reg [.none,(.pv flo.pv),(.pv who.pv),(.pv (.tup [fro.pv,.nilI]))],.reg [],.auto,.reg [.none,.none,(.pv sub.pv)]]) (cj h1 (cj h2 (cj h3 (cj h4 True.intro)))) (by kernel_rfl))
end law_wrapped
namespace slices_ContainsFunc_Rat
theorem e0(s:List ARat)(len:Nat)(f:ARat)(z:List ARat)(rat:Int)(h1:ContractX prg 78 [.row 100000 0 len 3,.clo 31 100001] [(100000,(.pure ((s:List ARat).map ARat.cells).flatten)),(100001,(.lit [(eB f.neg),(.pv (wordsPV f.num)),(.pv (wordsPV f.den))]))] (.pv (vI rat)) [(100000,(.pure ((z:List ARat).map ARat.cells).flatten)),(100001,(.lit [(eB f.neg),(.pv (wordsPV f.num)),(.pv (wordsPV f.den))]))]):ContractX prg 30 [(.row 100000 0 len 3),(.clo 31 100001)] [(100000,(.pure ((s:List ARat).map ARat.cells).flatten)),(100001,(.lit [(eB f.neg),(.pv (wordsPV f.num)),(.pv (wordsPV f.den))]))] (.pv (vB (decide (rat≥0)))) [(100000,(.pure ((z:List ARat).map ARat.cells).flatten)),(100001,(.lit [(eB f.neg),(.pv (wordsPV f.num)),(.pv (wordsPV f.den))]))] :=
 ContractX.ofL Tryz.func30 (by kernel_rfl) (LX.done mixed tabOk (n:=72) (ns:=[1]) (tr:=[.reg [],.reg [.none,.none,(.callX [(100000,100000),(100001,100001)] none (.pv (vI rat)) [(100000,(.pure ((z:List ARat).map ARat.cells).flatten)),(100001,(.lit [(eB f.neg),(.pv (wordsPV f.num)),(.pv (wordsPV f.den))]))])],.ord [100000,100001]]) rfl (cj h1 True.intro) (by kernel_rfl))
end slices_ContainsFunc_Rat
namespace law_Shift_1
theorem e0(y x:ARat)(cmp:Int)(h1:Contract prg 32 [x.pv,y.pv] (vI cmp)):ContractX prg 31 [(.pv y.pv),(.ptr 100001 0)] [(100001,(.lit [(eB x.neg),(.pv (wordsPV x.num)),(.pv (wordsPV x.den))]))] (.pv (vB (cmp==0))) [(100001,(.lit [(eB x.neg),(.pv (wordsPV x.num)),(.pv (wordsPV x.den))]))] :=
 ContractX.ofL Tryz.func31 (by kernel_rfl) (LX.done mixed tabOk (n:=72) (ns:=[1]) (tr:=[.reg [],.reg [.none,.none,(.pv (vI cmp))],.drop [2],.ord [100001]]) rfl (cj h1 True.intro) (by kernel_rfl))
end law_Shift_1
namespace law_piece
@[reducible] noncomputable def fn:Func:=Tryz.f35
noncomputable def atK1:List Itm:=focus [0,2,0,2,0,0,0] [.code (bodyOf fn)]
def inv1(i_5:Int)(l:ALaw)(x:ARat):St:=⟨[(2,(.ptr 2 0)),(3,(.ptr 3 0)),(5,(eI i_5))],[(2,(.lit [(.pv (polyPV l.breaks)),(.pv (lpv (lcell ARat.cells) l.pieces))])),(3,(.lit [(eB x.neg),(.pv (wordsPV x.num)),(.pv (wordsPV x.den))]))]⟩
@[reducible] noncomputable def Loop1(i_5:Int)(l:ALaw)(x:ARat)(r:PV):Prop:=L prg fn atK1 (inv1 i_5 l x) r
theorem e0(l:ALaw)(x:ARat){r:PV}(h1:InI64 ((l.breaks.length:Int)-1))(hL:Loop1 ((l.breaks.length:Int)-1) l x r):Contract prg 35 [l.pv,x.pv] r :=
 Contract.ofL Tryz.func35 (by kernel_rfl) (L.go mixed tabOk (n:=81) (ns:=[1,1]) (tr:=[.reg [],.reg [.none,.none,(iI (l.breaks.length:Int)),(iI ((l.breaks.length:Int)-1))],.keep [2,3,5],.ord [2,3]]) (cj (o_len ARat.cells l.breaks) (cj (bs_sub h1) True.intro)) (by kernel_rfl) hL)
theorem l10(i_5:Int)(l:ALaw)(x:ARat)(k:Nat)(v:ARat)(cmp:Int){r:PV}(h1:i_5=(k:Int))(h2:l.breaks[k]? = some v)(h3:Contract prg 32 [v.pv,x.pv] (vI cmp))(h4:0<cmp)(h5:InI64 (i_5-1))(hL:Loop1 (i_5-1) l x r):Loop1 i_5 l x r :=
 L.go mixed tabOk (n:=108) (ns:=[3,1,1,1]) (tr:=[.auto,dr 8 0 [.none,.none,.none,(.row k (ARat.cells v)),.none,.none,(.pv (vI cmp))],.dec true,.reg [.none,(iI (i_5-1))],.keep [2,3,5]]) (cj (o_at ARat.cells h1 h2) (cj h3 (cj (dlt_t h4) (cj (bs_sub h5) True.intro)))) (by kernel_rfl) hL
theorem l11(i_5:Int)(l:ALaw)(x:ARat)(k:Nat)(v:ARat)(cmp:Int)(h1:i_5=(k:Int))(h2:l.breaks[k]? = some v)(h3:Contract prg 32 [v.pv,x.pv] (vI cmp))(h4:cmp≤0):Loop1 i_5 l x (vI i_5) :=
 L.done mixed tabOk (n:=114) (ns:=[3,1,1]) (tr:=[.auto,dr 8 0 [.none,.none,.none,(.row k (ARat.cells v)),.none,.none,(.pv (vI cmp))],.dec false,.reg []]) (cj (o_at ARat.cells h1 h2) (cj h3 (cj (dlt_f h4) True.intro))) (by kernel_rfl)
end law_piece
namespace law_one
theorem e0(of:ARat)(h1:Contract prg 70 [(vI 1)] of.pv):Contract prg 37 [] of.pv :=
 Contract.ofL Tryz.func37 (by kernel_rfl) (L.done mixed tabOk (n:=72) (ns:=[1]) (tr:=[.reg [],.reg [(.pv of.pv)]]) (cj h1 True.intro) (by kernel_rfl))
end law_one
namespace law_joins
@[reducible] noncomputable def fn:Func:=Tryz.f63
noncomputable def atK1:List Itm:=focus [0,2,0,0,2,0,0] [.code (bodyOf fn)]
def inv1(l:ALaw)(t_12:Nat):St:=⟨[(1,(.ptr 1 0)),(10,(.pv (lpv (lcell ARat.cells) l.pieces))),(11,(eI (l.pieces.length:Int))),(12,(eI (t_12:Int)))],[(1,(.lit [(.pv (polyPV l.breaks)),(.pv (lpv (lcell ARat.cells) l.pieces))]))]⟩
@[reducible] noncomputable def Loop1(l:ALaw)(t_12:Nat)(r:PV):Prop:=L prg fn atK1 (inv1 l t_12) r
theorem e0 (l : ALaw) {r : PV}  (hL : Loop1 l 0 r) : Contract prg 63 [l.pv] r :=
 Contract.ofL Tryz.func63 (by kernel_rfl) (L.go mixed tabOk (n:=81) (ns:=[1]) (tr:=[.reg [],.reg [.none,.none,(iI (l.pieces.length:Int))],.keep [1,10,11,12]]) (cj (o_len (lcell ARat.cells) l.pieces) True.intro) (by kernel_rfl) hL)
theorem l10(l:ALaw)(t_12:Nat)(v:List ARat)(len eva:ARat)(v1:List ARat)(eva2:ARat)(cmp:Int)(h1:t_12<l.pieces.length)(h2:l.pieces[t_12]? = some v)(h3:Contract prg 110 [l.pv,(vI (t_12:Int))] len.pv)(h4:Contract prg 57 [(polyPV v),len.pv] (.tup [eva.pv,.nilI]))(h5:(t_12+1)<9223372036854775808)(h6:l.pieces.length≠0)(h7:l.pieces[((t_12+1)%l.pieces.length)]? = some v1)(h8:Contract prg 57 [(polyPV v1),(⟨false,[],[]⟩:ARat).pv] (.tup [eva2.pv,.nilI]))(h9:Contract prg 32 [eva.pv,eva2.pv] (vI cmp))(h10:cmp≠0):Loop1 l t_12 (.tup [(vB false),.nilI]) :=
 L.done mixed tabOk (n:=168) (ns:=[1,3,1,1,1,1,1,3,1,1,1]) (tr:=[.auto,.reg [],.dec true,.reg [.none,(.row t_12 ((lcell ARat.cells) v))],.reg [.none,.none,.none,(.pv len.pv),(.pv (.tup [eva.pv,.nilI]))],.reg [],.auto,dr 17 1 [.none,.none,.none,(iI (((t_12+1):Nat):Int)),.none,.none,(iI (l.pieces.length:Int)),(iI ((((t_12+1)%l.pieces.length):Nat):Int)),(.row ((t_12+1)%l.pieces.length) ((lcell ARat.cells) v1)),.none,.none,(.pv (.tup [eva2.pv,.nilI]))],.reg [],.auto,.reg [.none,.none,(.pv (vI cmp))],.dec true,.reg []]) (cj (dltN_t h1) (cj (o_at (lcell ARat.cells) (Eq.refl (((t_12:Nat):Int):Int)) h2) (cj h3 (cj h4 (cj (bs_addN h5) (cj (o_len (lcell ARat.cells) l.pieces) (cj (bs_remN (x:=(t_12+1)) h6) (cj (o_at (lcell ARat.cells) (Eq.refl (((((t_12+1)%l.pieces.length):Nat):Int):Int)) h7) (cj h8 (cj h9 (cj (dne_t h10) True.intro))))))))))) (by kernel_rfl)
theorem l11(l:ALaw)(t_12:Nat)(v:List ARat)(len eva:ARat)(v1:List ARat)(eva2:ARat)(cmp:Int){r:PV}(h1:t_12<l.pieces.length)(h2:l.pieces[t_12]? = some v)(h3:Contract prg 110 [l.pv,(vI (t_12:Int))] len.pv)(h4:Contract prg 57 [(polyPV v),len.pv] (.tup [eva.pv,.nilI]))(h5:(t_12+1)<9223372036854775808)(h6:l.pieces.length≠0)(h7:l.pieces[((t_12+1)%l.pieces.length)]? = some v1)(h8:Contract prg 57 [(polyPV v1),(⟨false,[],[]⟩:ARat).pv] (.tup [eva2.pv,.nilI]))(h9:Contract prg 32 [eva.pv,eva2.pv] (vI cmp))(h10:cmp=0)(hL:Loop1 l (t_12+1) r):Loop1 l t_12 r :=
 L.go mixed tabOk (n:=171) (ns:=[1,3,1,1,1,1,1,3,1,1,1,1]) (tr:=[.auto,.reg [],.dec true,.reg [.none,(.row t_12 ((lcell ARat.cells) v))],.reg [.none,.none,.none,(.pv len.pv),(.pv (.tup [eva.pv,.nilI]))],.reg [],.auto,dr 17 1 [.none,.none,.none,(iI (((t_12+1):Nat):Int)),.none,.none,(iI (l.pieces.length:Int)),(iI ((((t_12+1)%l.pieces.length):Nat):Int)),(.row ((t_12+1)%l.pieces.length) ((lcell ARat.cells) v1)),.none,.none,(.pv (.tup [eva2.pv,.nilI]))],.reg [],.auto,.reg [.none,.none,(.pv (vI cmp))],.dec false,.reg [(iI (((t_12+1):Nat):Int))],.keep [1,10,11,12],.drop [8,6]]) (cj (dltN_t h1) (cj (o_at (lcell ARat.cells) (Eq.refl (((t_12:Nat):Int):Int)) h2) (cj h3 (cj h4 (cj (bs_addN h5) (cj (o_len (lcell ARat.cells) l.pieces) (cj (bs_remN (x:=(t_12+1)) h6) (cj (o_at (lcell ARat.cells) (Eq.refl (((((t_12+1)%l.pieces.length):Nat):Int):Int)) h7) (cj h8 (cj h9 (cj (dne_f h10) (cj (bs_addN h5) True.intro)))))))))))) (by kernel_rfl) hL
theorem l14(l:ALaw)(t_12:Nat)(h1:l.pieces.length≤t_12):Loop1 l t_12 (.tup [(vB true),.nilI]) :=
 L.done mixed tabOk (n:=114) (ns:=[1]) (tr:=[.auto,.reg [],.dec false,.reg []]) (cj (dltN_f h1) True.intro) (by kernel_rfl)
end law_joins
namespace law_end
theorem e0(l:ALaw)(i:Int)(k:Nat)(v:ARat)(h1:InI64 (i+1))(h2:(i+1)<(l.breaks.length:Int))(h3:(i+1)=(k:Int))(h4:l.breaks[k]? = some v):Contract prg 67 [l.pv,(vI i)] v.pv :=
 Contract.ofL Tryz.func67 (by kernel_rfl) (L.done mixed tabOk (n:=84) (ns:=[1,1,1,1,3]) (tr:=[.reg [],.reg [.none,(iI (i+1)),.none,.none,(iI (l.breaks.length:Int))],.dec true,.reg [.none,.none,.none,(iI (i+1)),(.row k (ARat.cells v))]]) (cj (bs_add h1) (cj (o_len ARat.cells l.breaks) (cj (dlt_t h2) (cj (bs_add h1) (cj (o_at ARat.cells h3 h4) True.intro))))) (by kernel_rfl))
theorem e1(l:ALaw)(i:Int)(one:ARat)(h1:InI64 (i+1))(h2:(l.breaks.length:Int)≤(i+1))(h3:Contract prg 37 [] one.pv):Contract prg 67 [l.pv,(vI i)] one.pv :=
 Contract.ofL Tryz.func67 (by kernel_rfl) (L.done mixed tabOk (n:=87) (ns:=[1,1,1,1]) (tr:=[.reg [],.reg [.none,(iI (i+1)),.none,.none,(iI (l.breaks.length:Int))],.dec false,.reg [(.pv one.pv)]]) (cj (bs_add h1) (cj (o_len ARat.cells l.breaks) (cj (dlt_f h2) (cj h3 True.intro)))) (by kernel_rfl))
end law_end
namespace law_whole
theorem e0   : Contract prg 77 [] ((⟨false, [(1 : UInt32)]⟩ : AWhole).pv) :=
 Contract.ofL Tryz.func77 (by kernel_rfl) (L.done mixed tabOk (n:=72) (ns:=[3]) (tr:=[.reg [],.reg [(.slc 0 0 (([(1:UInt32)]:List UInt32).map wordPV))]]) (cj (o_bs sz_word ([(1:UInt32)]:List UInt32)) True.intro) (by kernel_rfl))
end law_whole
namespace slices_IndexFunc_Rat
@[reducible] noncomputable def fn:Func:=Tryz.f78
noncomputable def atK1:List Itm:=focus [0,2,0,0,2,0,0] [.code (bodyOf fn)]
def inv1(len:Nat)(f:ARat)(t_8:Nat)(s:List ARat):St:=⟨[(0,(.row 100000 0 len 3)),(1,(.clo 31 100001)),(7,(eI (len:Int))),(8,(eI (t_8:Int)))],[(100000,(.pure ((s:List ARat).map ARat.cells).flatten)),(100001,(.lit [(eB f.neg),(.pv (wordsPV f.num)),(.pv (wordsPV f.den))]))]⟩
@[reducible] noncomputable def Loop1(len:Nat)(f:ARat)(t_8:Nat)(s:List ARat)(sin:Sto)(r:EV)(sout:Sto):Prop:=LX prg fn atK1 (inv1 len f t_8 s) sin r sout
theorem e0 (s : List ARat) (len : Nat) (f : ARat) {r : EV} {sout : Sto}  (hL : Loop1 len f 0 s [(100000, (.pure ((s : List ARat).map ARat.cells).flatten)), (100001, (.lit [(eB f.neg), (.pv (wordsPV f.num)), (.pv (wordsPV f.den))]))] r sout) : ContractX prg 78 [(.row 100000 0 len 3), (.clo 31 100001)] [(100000, (.pure ((s : List ARat).map ARat.cells).flatten)), (100001, (.lit [(eB f.neg), (.pv (wordsPV f.num)), (.pv (wordsPV f.den))]))] r sout :=
 ContractX.ofL Tryz.func78 (by kernel_rfl) (LX.go mixed tabOk (n:=81) (ns:=[]) (tr:=[.reg [],.reg [],.keep [0,1,7,8]]) rfl True.intro (by kernel_rfl) hL)
theorem l10(len:Nat)(f:ARat)(t_8:Nat)(s:List ARat)(v:ARat)(shi:Bool){sin:Sto}(hs:sin.all (fun p=>Nat.ble fn.ntmps p.1)=true)(hi:sin.all (fun p=>gvB p.1||(Sto.get [(100000,(.pure ((s:List ARat).map ARat.cells).flatten)),(100001,(.lit [(eB f.neg),(.pv (wordsPV f.num)),(.pv (wordsPV f.den))]))] p.1).isSome)=true)(h1:t_8<len)(h2:s[t_8]? = some v)(h3:ContractX prg 31 [.pv v.pv,.ptr 100001 0] [(100001,(.lit [(eB f.neg),(.pv (wordsPV f.num)),(.pv (wordsPV f.den))]))] (.pv (vB shi)) [(100001,(.lit [(eB f.neg),(.pv (wordsPV f.num)),(.pv (wordsPV f.den))]))])(h4:shi=true):Loop1 len f t_8 s sin (.pv (vI (t_8:Int))) [(100000,(.pure ((s:List ARat).map ARat.cells).flatten)),(100001,(.lit [(eB f.neg),(.pv (wordsPV f.num)),(.pv (wordsPV f.den))]))] :=
 LX.done2 mixed tabOk (n:=126) (ns:=[1,2,2,1,1]) (tr:=[.auto,.reg [],.dec true,.reg [],.reg [.none,.none,.none,(.nat t_8),(.seg [(vB v.neg),(wordsPV v.num),(wordsPV v.den)]),(.callX [(100001,100001)] none (.pv (vB shi)) [(100001,(.lit [(eB f.neg),(.pv (wordsPV f.num)),(.pv (wordsPV f.den))]))])],.dec true,.reg [],.ord [100000,100001]]) hs hi (cj (dltN_t h1) (cj (cj (Eq.refl (((t_8:Nat):Int):Int)) h1) (cj (o_seg sz_ARat h2) (cj h3 (cj h4 True.intro))))) (by kernel_rfl)
theorem l11(len:Nat)(f:ARat)(t_8:Nat)(s:List ARat)(v:ARat)(shi:Bool){r:EV}{sout:Sto}{sin:Sto}(hs:sin.all (fun p=>Nat.ble fn.ntmps p.1)=true)(h1:t_8<len)(h2:s[t_8]? = some v)(h3:ContractX prg 31 [.pv v.pv,.ptr 100001 0] [(100001,(.lit [(eB f.neg),(.pv (wordsPV f.num)),(.pv (wordsPV f.den))]))] (.pv (vB shi)) [(100001,(.lit [(eB f.neg),(.pv (wordsPV f.num)),(.pv (wordsPV f.den))]))])(h4:shi=false)(h5:(t_8+1)<9223372036854775808)(hL:Loop1 len f (t_8+1) s sin r sout):Loop1 len f t_8 s sin r sout :=
 LX.go mixed tabOk (n:=129) (ns:=[1,2,2,1,1,1]) (tr:=[.auto,.reg [],.dec true,.reg [],.reg [.none,.none,.none,(.nat t_8),(.seg [(vB v.neg),(wordsPV v.num),(wordsPV v.den)]),(.callX [(100001,100001)] none (.pv (vB shi)) [(100001,(.lit [(eB f.neg),(.pv (wordsPV f.num)),(.pv (wordsPV f.den))]))])],.dec false,.reg [(iI (((t_8+1):Nat):Int))],.keep [0,1,7,8]]) hs (cj (dltN_t h1) (cj (cj (Eq.refl (((t_8:Nat):Int):Int)) h1) (cj (o_seg sz_ARat h2) (cj h3 (cj h4 (cj (bs_addN h5) True.intro)))))) (by kernel_rfl) hL
theorem l12(len:Nat)(f:ARat)(t_8:Nat)(s:List ARat){sin:Sto}(hs:sin.all (fun p=>Nat.ble fn.ntmps p.1)=true)(hi:sin.all (fun p=>gvB p.1||(Sto.get [(100000,(.pure ((s:List ARat).map ARat.cells).flatten)),(100001,(.lit [(eB f.neg),(.pv (wordsPV f.num)),(.pv (wordsPV f.den))]))] p.1).isSome)=true)(h1:len≤t_8):Loop1 len f t_8 s sin (.pv (vI (-1))) [(100000,(.pure ((s:List ARat).map ARat.cells).flatten)),(100001,(.lit [(eB f.neg),(.pv (wordsPV f.num)),(.pv (wordsPV f.den))]))] :=
 LX.done2 mixed tabOk (n:=114) (ns:=[1]) (tr:=[.auto,.reg [],.dec false,.reg [],.ord [100000,100001]]) hs hi (cj (dltN_f h1) True.intro) (by kernel_rfl)
end slices_IndexFunc_Rat
namespace law_length
theorem e0(l:ALaw)(i:Int)(endV:ARat)(k:Nat)(v sub:ARat)(h1:Contract prg 67 [l.pv,(vI i)] endV.pv)(h2:i=(k:Int))(h3:l.breaks[k]? = some v)(h4:Contract prg 34 [endV.pv,v.pv] sub.pv):Contract prg 110 [l.pv,(vI i)] sub.pv :=
 Contract.ofL Tryz.func110 (by kernel_rfl) (L.done mixed tabOk (n:=72) (ns:=[1,3,1]) (tr:=[.reg [],dr 9 1 [.none,.none,(.pv endV.pv),.none,.none,.none,(.row k (ARat.cells v)),.none,(.pv sub.pv)]]) (cj h1 (cj (o_at ARat.cells h2 h3) (cj h4 True.intro))) (by kernel_rfl))
end law_length
end Go.Proofs.YtegpfcmnjhmhjaaGreat.Sym.Path
namespace Go.Proofs.YtegpfcmnjhmhjaaGreat.Sym
open Go Path CInt
set_option linter.unusedVariables false
namespace CLw
theorem one:Contract prg 37 [] (mkR (1:Int)).pv:=law_one.e0 _ (CFr.Of 1 (by unfold InI64;omega))
theorem Check2(l:ALaw)(hl:l.pieces.length<4611686018427387904)(hf:∀p∈l.pieces,FitP 274877906944 p):∀(j t:Nat),l.pieces.length-t=j→law_Check.Loop2 l t (errPV (errOf (chkP (l.pieces.drop t)))):=by
 intro j
 induction j with
 |zero =>
  intro t hj
  rw[List.drop_of_length_le (by omega)]
  exact law_Check.l23 l t (by omega)
 |succ j ih =>
  intro t hj
  obtain⟨v,hv⟩:∃v,l.pieces[t]? = some v:=⟨_,List.getElem?_eq_getElem (by omega)⟩
  have hvf:=hf v (List.mem_of_getElem? hv)
  have hc:=CPo.Check v hvf
  rw[drop_cons hv,chkP]
  by_cases h0:chk v=0
  ·rw[decide_eq_false (by simpa using h0),cond_false]
   rw[h0] at hc
   have hd:=poly_Degree.e0 v (by have:=chk_len h0;unfold InI64;omega)
   by_cases h9:9<v.length
   ·rw[show Nat.blt 9 v.length=true from by simpa[Nat.blt_eq] using h9,cond_true]
    exact law_Check.l20 l t v _ (by omega) hv hc hd (by omega)
   ·rw[show Nat.blt 9 v.length=false from by cases hb:Nat.blt 9 v.length with
     |false=>rfl
     |true=>exact absurd (by simpa[Nat.blt_eq] using hb) h9,cond_false]
    exact law_Check.l21 l t v _ (by omega) hv hc hd (by omega) (by omega) (ih (t+1) (by omega))
  ·rw[decide_eq_true h0,cond_true]
   rw[errOf_ne h0] at hc ⊢
   exact law_Check.l22 l t v _ (by omega) hv hc
theorem Check(l:ALaw)(hf:FitW 1073741824 l):Contract prg 15 [l.pv] (errPV (errOf (chkLaw l))):=by
 unfold chkLaw
 by_cases h0:l.breaks.length=0
 ·rw[if_pos (Or.inl h0)];exact law_Check.e0 l h0
 by_cases h1:l.breaks.length=l.pieces.length
 ·rw[if_neg (by intro h;rcases h with h|h<;>omega)]
  by_cases h2:16<l.breaks.length
  ·rw[if_pos h2];exact law_Check.e2 l h0 h1 h2
  ·rw[if_neg h2]
   have hps:∀p∈l.pieces,FitP 274877906944 p:=fun p hp a ha=>⟨by have:=(hf.2 p hp a ha).1;omega,by have:=(hf.2 p hp a ha).2;omega⟩
   have loop:∀(j t:Nat) (p:Option Rat),l.breaks.length-t=j→t≤l.breaks.length→(t=0→p=none)→(∀k v,t=k+1→l.breaks[k]? = some v→p=some v.val)→law_Check.Loop1 l t (errPV (errOf (chkR p (l.breaks.drop t) l.pieces))):=by
    intro j
    induction j with
    |zero =>
     intro t p hj ht _ _
     rw[List.drop_of_length_le (by omega),chkR_nil]
     refine law_Check.l110 l t (by omega) ?_
     have:=Check2 l (by omega) hps _ 0 rfl
     rwa[List.drop_zero] at this
    |succ j ih =>
     intro t p hj ht hp0 hp
     obtain⟨v,hv⟩:∃v,l.breaks[t]? = some v:=⟨_,List.getElem?_eq_getElem (by omega)⟩
     have hvf:=hf.1 v (List.mem_of_getElem? hv)
     have hva:=CFr.Valid v ⟨by omega,by omega⟩
     have hsg:=CFr.Sign v ⟨by omega,by omega⟩
     have hone:=one
     have hcm:=CFr.Cmp v (mkR (1:Int)) ⟨by omega,by omega⟩ ⟨by decide,by decide⟩
     rw[mkR_val,show((1:Int):Rat)=1 from rfl] at hcm
     rw[drop_cons hv]
     cases hvv:v.valid with
     |false =>
      rw[chkR_stop (chkB_out (outB_inv hvv)) (by omega)]
      exact law_Check.l10 l t v _ (by omega) hv hva hvv
     |true =>
      by_cases hs:v.val<0
      ·rw[chkR_stop (chkB_out (outB_lt hs)) (by omega)]
       exact law_Check.l11 l t v _ _ (by omega) hv hva hvv hsg (cmpR_lt.2 hs)
      ·have hs':0≤cmpR v.val 0:=cmpR_ge.2 (by grind)
       by_cases hc:1≤v.val
       ·rw[chkR_stop (chkB_out (outB_ge hc)) (by omega)]
        exact law_Check.l12 l t v _ _ _ _ (by omega) hv hva hvv hsg hs' hone hcm (cmpR_ge.2 hc)
       ·have ho:=outB_no hvv hs hc
        have hc':cmpR v.val 1<0:=cmpR_lt.2 (by grind)
        by_cases ht0:t=0
        ·have:=hp0 ht0
         subst this
         by_cases hz:v.val=0
         ·rw[chkR_cons ho (by unfold badB;exact decide_eq_false (by simpa using hz))]
          refine law_Check.l16 l t v _ _ _ _ _ (by omega) hv hva hvv hsg hs' hone hcm hc' ht0 hsg (cmpR_eq.2 hz) (by omega) (by omega) (ih (t+1) _ (by omega) (by omega) (by omega) ?_)
          intro k u hk hu
          have:k=t:=by omega
          subst this
          rw[hv] at hu;injection hu with hu;rw[hu]
         ·rw[chkR_stop (chkB_bad ho (by unfold badB;exact decide_eq_true hz)) (by omega)]
          exact law_Check.l13 l t v _ _ _ _ _ (by omega) hv hva hvv hsg hs' hone hcm hc' ht0 hsg (fun e=>hz (cmpR_eq.1 e))
        ·obtain⟨k,hk⟩:∃k,t=k+1:=⟨t-1,by omega⟩
         obtain⟨u,hu⟩:∃u,l.breaks[k]? = some u:=⟨_,List.getElem?_eq_getElem (by omega)⟩
         have:=hp k u hk hu
         subst this
         have huf:=hf.1 u (List.mem_of_getElem? hu)
         have hcu:=CFr.Cmp v u ⟨by omega,by omega⟩ ⟨by omega,by omega⟩
         by_cases hz:v.val≤u.val
         ·rw[chkR_stop (chkB_bad ho (by unfold badB;exact decide_eq_true hz)) (by omega)]
          exact law_Check.l17 l t v _ _ _ _ k u _ (by omega) hv hva hvv hsg hs' hone hcm hc' ht0 (by omega) (by unfold InI64;omega) (by omega) hu hcu (cmpR_le.2 hz)
         ·rw[chkR_cons ho (by unfold badB;exact decide_eq_false hz)]
          refine law_Check.l18 l t v _ _ _ _ k u _ (by omega) hv hva hvv hsg hs' hone hcm hc' ht0 (by omega) (by unfold InI64;omega) (by omega) hu hcu (cmpR_gt.2 (by grind)) (by omega) (ih (t+1) _ (by omega) (by omega) (by omega) ?_)
          intro k' u' hk' hu'
          have:k'=t:=by omega
          subst this
          rw[hv] at hu';injection hu' with hu';rw[hu']
   refine law_Check.e3 l h0 h1 (by omega) ?_
   have:=loop _ 0 none rfl (by omega) (fun _=>rfl) (fun k v h=>by omega)
   rwa[List.drop_zero] at this
 ·rw[if_pos (Or.inr h1)];exact law_Check.e1 l h0 h1
theorem wrapped(x:ARat)(h:x.num.length≤1073741824∧x.den.length≤1073741824):Contract prg 29 [x.pv] (.tup [(mkR (frac x.val)).pv,.nilI]):=by
 obtain⟨f1,f2⟩:=h
 have hh:=ht_fit (k:=1073741824) f1 f2 (by omega)
 have hfl:=CFr.Floor x ⟨by omega,by omega⟩
 have hw:=wl_floor x.val
 have hfr:=CFr.From (Sym.whole x.val.floor) (⟨false,[(1:UInt32)]⟩:AWhole) (show wl _≤_ by omega) (by decide) (by decide)
 rw[whole_val,show Rat.divInt x.val.floor (⟨false,[(1:UInt32)]⟩:AWhole).val=(x.val.floor:Rat) from by rw[show (⟨false,[(1:UInt32)]⟩:AWhole).val=1 from rfl,Rat.divInt_eq_div];grind] at hfr
 have hi:=ht_int x.val.floor
 have hs:=CFr.Sub x (mkR (x.val.floor:Rat)) ⟨by omega,by omega⟩ (fit_mkR (by omega))
 rw[mkR_val] at hs
 exact law_wrapped.e0 x _ _ _ _ hfl law_whole.e0 hfr hs
theorem piece(l:ALaw)(x:ARat)(g:Good l)(hf:FitP 1073741824 l.breaks)(hx:x.num.length≤1073741824∧x.den.length≤1073741824)(h0:0≤x.val):Contract prg 35 [l.pv,x.pv] (vI (pieceL (vals l.breaks) x.val:Nat)):=by
 have hlen:(vals l.breaks).length=l.breaks.length:=by unfold vals;rw[List.length_map]
 have hle:=g.le
 have hn0:=g.n0
 have loop:∀(n:Nat),n<l.breaks.length→(∀b,(vals l.breaks)[n+1]? = some b→x.val<b)→law_piece.Loop1 (n:Int) l x (vI (pieceL (vals l.breaks) x.val:Nat)):=by
  intro n
  induction n with
  |zero =>
   intro hn hup
   obtain⟨v,hv⟩:∃v,l.breaks[0]? = some v:=⟨_,List.getElem?_eq_getElem (by omega)⟩
   have hvf:=hf v (List.mem_of_getElem? hv)
   have hc:=CFr.Cmp v x ⟨by omega,by omega⟩ ⟨by omega,by omega⟩
   have e:=g.first v hv
   have hp:pieceL (vals l.breaks) x.val=0:=by
    refine pieceF_eq _ _ 0 (fun j b hj=>by omega) (fun b hb=>hup b ?_) (by omega)
    rw[List.getElem?_drop] at hb;rw[Nat.add_comm];exact hb
   rw[hp]
   refine law_piece.l11 _ l x 0 v _ (by omega) hv hc (cmpR_le.2 (by grind))
  |succ n ih =>
   intro hn hup
   obtain⟨v,hv⟩:∃v,l.breaks[n+1]? = some v:=⟨_,List.getElem?_eq_getElem (by omega)⟩
   have hvf:=hf v (List.mem_of_getElem? hv)
   have hvv:(vals l.breaks)[n+1]? = some v.val:=by unfold vals;rw[List.getElem?_map,hv];rfl
   have hc:=CFr.Cmp v x ⟨by omega,by omega⟩ ⟨by omega,by omega⟩
   by_cases hle2:v.val≤x.val
   ·have hp:pieceL (vals l.breaks) x.val=n+1:=by
     refine pieceF_eq _ _ (n+1) (fun j b hj hb => ?_) (fun b hb=>hup b ?_) (by rw[List.length_drop];omega)
     ·rw[List.getElem?_drop] at hb
      by_cases hjn:j=n
      ·subst hjn
       rw[Nat.add_comm,hvv] at hb;injection hb with hb;rw[←hb];exact hle2
      ·have h1:1+j<(vals l.breaks).length:=(List.getElem?_eq_some_iff.1 hb).1
       have h2:n+1<(vals l.breaks).length:=by omega
       have:=List.pairwise_iff_getElem.1 g.asc (1+j) (n+1) h1 h2 (by omega)
       rw[(List.getElem?_eq_some_iff.1 hb).2,(List.getElem?_eq_some_iff.1 hvv).2] at this
       grind
     ·rw[List.getElem?_drop] at hb;rw[Nat.add_comm];exact hb
    rw[hp]
    refine law_piece.l11 _ l x (n+1) v _ (by omega) hv hc (cmpR_le.2 (by grind))
   ·refine law_piece.l10 _ l x (n+1) v _ (by omega) hv hc (cmpR_gt.2 (by grind)) (by unfold InI64;omega) ?_
    have:=ih (by omega) (fun b hb=>by rw[hvv] at hb;injection hb with hb;rw[←hb];grind)
    rwa[show ((n+1:Nat):Int)-1=(n:Int) from by omega]
 have:=loop (l.breaks.length-1) (by omega) (fun b hb=>by
  rw[List.getElem?_eq_none (by omega)] at hb;cases hb)
 refine law_piece.e0 l x (by unfold InI64;omega) ?_
 rwa[show ((l.breaks.length-1:Nat):Int)=(l.breaks.length:Int)-1 from by omega] at this
theorem frac_nonneg(x:Rat):0≤frac x:=by
 have:=Rat.floor_le (a:=x)
 unfold frac
 grind
theorem At(l:ALaw)(x:ARat)(hc:chkLaw l=0)(hf:FitW 1048576 l)(hv:x.valid=true)(hx:x.num.length≤1048576∧x.den.length≤1048576):Contract prg 18 [l.pv,x.pv] (.tup [(mkR (atW l x.val)).pv,.nilI]):=by
 have g:=good_of hc
 have hk:=Check l ⟨fun a ha=>⟨by have:=(hf.1 a ha).1;omega,by have:=(hf.1 a ha).2;omega⟩,fun p hp a ha=>⟨by have:=(hf.2 p hp a ha).1;omega,by have:=(hf.2 p hp a ha).2;omega⟩⟩
 rw[hc] at hk
 have hva:=CFr.Valid x ⟨by omega,by omega⟩
 have hw:=wrapped x ⟨by omega,by omega⟩
 have hxv:=hv
 obtain⟨f1,f2⟩:=hx
 have hh:=ht_fit (k:=1048576) f1 f2 (by omega)
 have hfr:=ht_frac hh
 have hxf:=fit_mkRk (k:=2097154) (q:=frac x.val) (by omega)
 have hn0:=g.n0
 have hlen:=g.len
 have hle:=g.le
 have hlen2:(vals l.breaks).length=l.breaks.length:=by unfold vals;rw[List.length_map]
 have hlt:=pieceL_lt (bs:=vals l.breaks) (by omega) (frac x.val)
 obtain⟨v,hv⟩:∃v,l.breaks[pieceL (vals l.breaks) (frac x.val)]? = some v:=⟨_,List.getElem?_eq_getElem (by omega)⟩
 obtain⟨p,hp⟩:∃p,l.pieces[pieceL (vals l.breaks) (frac x.val)]? = some p:=⟨_,List.getElem?_eq_getElem (by omega)⟩
 have hvf:=hf.1 v (List.mem_of_getElem? hv)
 have hpf:=hf.2 p (List.mem_of_getElem? hp)
 have hvh:=ht_fit hvf.1 hvf.2 (by omega)
 obtain⟨hpc,hpl⟩:=g.ps p (List.mem_of_getElem? hp)
 have hsub:=CFr.Sub (mkR (frac x.val)) v ⟨by omega,by omega⟩ ⟨by omega,by omega⟩
 rw[mkR_val] at hsub
 have hsf:=fit_mkRk (k:=1073741824) (q:=frac x.val-v.val) (by have:=ht_sub (frac x.val) v.val;omega)
 have e:atW l x.val=evalL (vals p) (frac x.val-v.val):=by unfold atW;rw[List.getD_eq_getElem?_getD,List.getD_eq_getElem?_getD,hv,hp];rfl
 rw[e]
 have hpi:=piece l (mkR (frac x.val)) g (fun a ha=>⟨by have:=(hf.1 a ha).1;omega,by have:=(hf.1 a ha).2;omega⟩) ⟨by omega,by omega⟩ (by rw[mkR_val];exact frac_nonneg _)
 rw[mkR_val] at hpi
 have hev:=CPo.Eval p (mkR (frac x.val-v.val)) hpc (fun a ha=>⟨by have:=(hpf a ha).1;omega,by have:=(hpf a ha).2;omega⟩) hsf
 rw[mkR_val] at hev
 exact law_At.e1 l x _ _ _ _ p _ v _ _ none hk hva hxv hw hpi rfl hp rfl hv hsub hev
theorem end'(l:ALaw)(i:Nat)(hl:l.breaks.length≤1073741824)(hi:i<l.breaks.length)(hv:l.breaks.all ARat.valid=true):Contract prg 67 [l.pv,vI (i:Int)] (mkR (endW l i)).pv:=by
 unfold endW
 cases h:l.breaks[i+1]? with
 |some v =>
  have h1:=(List.getElem?_eq_some_iff.1 h).1
  show Contract prg _ _ (mkR v.val).pv
  rw[mkR_of (List.all_eq_true.1 hv v (List.mem_of_getElem? h))]
  exact law_end.e0 l i (i+1) v (by unfold InI64;omega) (by omega) (by omega) h
 |none =>
  have h1:=List.getElem?_eq_none_iff.1 h
  exact law_end.e1 l i _ (by unfold InI64;omega) (by omega) one
end CLw
end Go.Proofs.YtegpfcmnjhmhjaaGreat.Sym
namespace Go.Proofs.YtegpfcmnjhmhjaaGreat.Sym
open Go Path CInt
set_option linter.unusedVariables false
namespace CRl
theorem Check2(l:ALaw)(hl:l.pieces.length<4611686018427387904)(hf:∀p∈l.pieces,FitP 274877906944 p):∀(j t:Nat),l.pieces.length-t=j→linkworkref52_Check.Loop2 t l (vI (chkP (l.pieces.drop t))):=by
 intro j
 induction j with
 |zero =>
  intro t hj
  rw[List.drop_of_length_le (by omega)]
  exact linkworkref52_Check.l23 t l (by omega)
 |succ j ih =>
  intro t hj
  obtain⟨v,hv⟩:∃v,l.pieces[t]? = some v:=⟨_,List.getElem?_eq_getElem (by omega)⟩
  have hvf:=hf v (List.mem_of_getElem? hv)
  have hc:=CRe.Check v hvf
  rw[drop_cons hv,chkP]
  by_cases h0:chk v=0
  ·rw[decide_eq_false (by simpa using h0),cond_false]
   by_cases h9:9<v.length
   ·rw[show Nat.blt 9 v.length=true from by simpa[Nat.blt_eq] using h9,cond_true]
    exact linkworkref52_Check.l21 t l v _ (by omega) hv hc h0 h9
   ·rw[show Nat.blt 9 v.length=false from by cases hb:Nat.blt 9 v.length with
     |false=>rfl
     |true=>exact absurd (by simpa[Nat.blt_eq] using hb) h9,cond_false]
    exact linkworkref52_Check.l22 t l v _ (by omega) hv hc h0 (by omega) (by omega) (ih (t+1) (by omega))
  ·rw[decide_eq_true h0,cond_true]
   exact linkworkref52_Check.l20 t l v _ (by omega) hv hc h0
theorem Check(l:ALaw)(hf:FitW 1073741824 l):Contract prg 10 [l.pv] (vI (chkLaw l)):=by
 unfold chkLaw
 by_cases h0:l.breaks.length=0
 ·rw[if_pos (Or.inl h0)];exact linkworkref52_Check.e0 l h0
 by_cases h1:l.breaks.length=l.pieces.length
 ·rw[if_neg (by intro h;rcases h with h|h<;>omega)]
  by_cases h2:16<l.breaks.length
  ·rw[if_pos h2];exact linkworkref52_Check.e2 l h0 h1 h2
  ·rw[if_neg h2]
   have hps:∀p∈l.pieces,FitP 274877906944 p:=fun p hp a ha=>⟨by have:=(hf.2 p hp a ha).1;omega,by have:=(hf.2 p hp a ha).2;omega⟩
   have loop:∀(j t:Nat) (p:Option Rat),l.breaks.length-t=j→t≤l.breaks.length→(t=0→p=none)→(∀k v,t=k+1→l.breaks[k]? = some v→p=some v.val)→linkworkref52_Check.Loop1 t l (vI (chkR p (l.breaks.drop t) l.pieces)):=by
    intro j
    induction j with
    |zero =>
     intro t p hj ht _ _
     rw[List.drop_of_length_le (by omega),chkR_nil]
     refine linkworkref52_Check.l110 t l (by omega) ?_
     have:=Check2 l (by omega) hps _ 0 rfl
     rwa[List.drop_zero] at this
    |succ j ih =>
     intro t p hj ht hp0 hp
     obtain⟨v,hv⟩:∃v,l.breaks[t]? = some v:=⟨_,List.getElem?_eq_getElem (by omega)⟩
     have hvf:=hf.1 v (List.mem_of_getElem? hv)
     have hva:=CRb.Valid v ⟨by omega,by omega⟩
     have hsg:=CRb.Sign v ⟨by omega,by omega⟩
     have hone:=(CRb.Of 1 (by unfold InI64;omega))
     have hcm:=CRb.Cmp v (mkR (1:Int)) ⟨by omega,by omega⟩ ⟨by decide,by decide⟩
     rw[mkR_val,show((1:Int):Rat)=1 from rfl] at hcm
     rw[drop_cons hv]
     cases hvv:v.valid with
     |false =>
      rw[chkR_stop (chkB_out (outB_inv hvv)) (by omega)]
      exact linkworkref52_Check.l10 t l v _ (by omega) hv hva hvv
     |true =>
      by_cases hs:v.val<0
      ·rw[chkR_stop (chkB_out (outB_lt hs)) (by omega)]
       exact linkworkref52_Check.l11 t l v _ _ (by omega) hv hva hvv hsg (cmpR_lt.2 hs)
      ·have hs':0≤cmpR v.val 0:=cmpR_ge.2 (by grind)
       by_cases hc:1≤v.val
       ·rw[chkR_stop (chkB_out (outB_ge hc)) (by omega)]
        exact linkworkref52_Check.l12 t l v _ _ _ _ (by omega) hv hva hvv hsg hs' hone hcm (cmpR_ge.2 hc)
       ·have ho:=outB_no hvv hs hc
        have hc':cmpR v.val 1<0:=cmpR_lt.2 (by grind)
        by_cases ht0:t=0
        ·have:=hp0 ht0
         subst this
         by_cases hz:v.val=0
         ·rw[chkR_cons ho (by unfold badB;exact decide_eq_false (by simpa using hz))]
          refine linkworkref52_Check.l16 t l v _ _ _ _ _ (by omega) hv hva hvv hsg hs' hone hcm hc' ht0 hsg (cmpR_eq.2 hz) (by omega) (by omega) (ih (t+1) _ (by omega) (by omega) (by omega) ?_)
          intro k u hk hu
          have:k=t:=by omega
          subst this
          rw[hv] at hu;injection hu with hu;rw[hu]
         ·rw[chkR_stop (chkB_bad ho (by unfold badB;exact decide_eq_true hz)) (by omega)]
          exact linkworkref52_Check.l13 t l v _ _ _ _ _ (by omega) hv hva hvv hsg hs' hone hcm hc' ht0 hsg (fun e=>hz (cmpR_eq.1 e))
        ·obtain⟨k,hk⟩:∃k,t=k+1:=⟨t-1,by omega⟩
         obtain⟨u,hu⟩:∃u,l.breaks[k]? = some u:=⟨_,List.getElem?_eq_getElem (by omega)⟩
         have:=hp k u hk hu
         subst this
         have huf:=hf.1 u (List.mem_of_getElem? hu)
         have hcu:=CRb.Cmp v u ⟨by omega,by omega⟩ ⟨by omega,by omega⟩
         by_cases hz:v.val≤u.val
         ·rw[chkR_stop (chkB_bad ho (by unfold badB;exact decide_eq_true hz)) (by omega)]
          exact linkworkref52_Check.l17 t l v _ _ _ _ k u _ (by omega) hv hva hvv hsg hs' hone hcm hc' ht0 (by omega) (by unfold InI64;omega) (by omega) hu hcu (cmpR_le.2 hz)
         ·rw[chkR_cons ho (by unfold badB;exact decide_eq_false hz)]
          refine linkworkref52_Check.l18 t l v _ _ _ _ k u _ (by omega) hv hva hvv hsg hs' hone hcm hc' ht0 (by omega) (by unfold InI64;omega) (by omega) hu hcu (cmpR_gt.2 (by grind)) (by omega) (ih (t+1) _ (by omega) (by omega) (by omega) ?_)
          intro k' u' hk' hu'
          have:k'=t:=by omega
          subst this
          rw[hv] at hu';injection hu' with hu';rw[hu']
   refine linkworkref52_Check.e3 l h0 h1 (by omega) ?_
   have:=loop _ 0 none rfl (by omega) (fun _=>rfl) (fun k v h=>by omega)
   rwa[List.drop_zero] at this
 ·rw[if_pos (Or.inr h1)];exact linkworkref52_Check.e1 l h0 h1
end CRl
end Go.Proofs.YtegpfcmnjhmhjaaGreat.Sym
namespace Go.Proofs.YtegpfcmnjhmhjaaGreat.Sym
open Go Path CInt
set_option linter.unusedVariables false
theorem trimL_cons(a:Rat)(r:List Rat):trimL (a::r)=bif (trimL r).isEmpty&&decide (a=0) then [] else a::trimL r:=rfl
theorem trimL_cases(a:Rat)(r:List Rat):(trimL r=[]∧a=0∧trimL (a::r)=[])∨trimL (a::r)=a::trimL r:=by
 rw[trimL_cons]
 cases h:(trimL r).isEmpty&&decide (a=0) with
 |false=>exact Or.inr rfl
 |true =>
  rw[Bool.and_eq_true] at h
  exact Or.inl ⟨List.isEmpty_iff.1 h.1,of_decide_eq_true h.2,rfl⟩
theorem mem_trimL:∀{q:List Rat} {y:Rat},y∈trimL q→y∈q
 |[],y,h=>h
 |a::r,y,h=>by
  rcases trimL_cases a r with ⟨_,_,e⟩|e
  ·rw[e] at h;cases h
  ·rw[e] at h
   rcases List.mem_cons.1 h with h|h
   ·rw[h];exact List.mem_cons_self ..
   ·exact List.mem_cons_of_mem _ (mem_trimL h)
theorem len_trimL:∀q:List Rat,(trimL q).length≤q.length
 |[]=>by simp[trimL]
 |a::r=>by
  rcases trimL_cases a r with ⟨_,_,e⟩|e
  ·rw[e];simp
  ·rw[e];simpa using len_trimL r
theorem fl_trimL{k:Nat}{q:List Rat}(h:Fl k q):Fl k (trimL q):=fun x hx=>h x (mem_trimL hx)
theorem lastZ_trimL:∀q:List Rat,lastZ (trimL q)=false
 |[]=>rfl
 |a::r=>by
  have ih:=lastZ_trimL r
  rw[trimL_cons]
  cases h:trimL r with
  |nil =>
   by_cases h0:a=0
   ·rw[decide_eq_true h0];rfl
   ·rw[decide_eq_false h0]
    unfold lastZ
    exact decide_eq_false h0
  |cons b s =>
   rw[h] at ih
   unfold lastZ at ih ⊢
   rw[show (bif (b::s).isEmpty&&decide (a=0) then [] else a::b::s)=a::b::s from rfl]
   rw[List.getLast?_cons_cons]
   exact ih
theorem trimL_of:∀{q:List Rat},lastZ q=false→trimL q=q
 |[],_=>rfl
 |[a],h=>by
  unfold lastZ at h
  have h:¬a=0:=of_decide_eq_false h
  rw[trimL_cons,decide_eq_false h];rfl
 |a::b::s,h=>by
  unfold lastZ at h
  rw[List.getLast?_cons_cons] at h
  have:=trimL_of (q:=b::s) h
  rw[trimL_cons,this];rfl
theorem trimL_idem(q:List Rat):trimL (trimL q)=trimL q:=trimL_of (lastZ_trimL q)
theorem chk_map{q:List Rat}(h:lastZ q=false)(hl:q.length≤65):chk (q.map mkR)=0:=by
 unfold chk
 rw[if_neg (by rw[List.length_map];omega),vals_mkR,h]
 rw[show (q.map mkR).all ARat.valid=true from by
  rw[List.all_eq_true]
  intro a ha
  obtain⟨x,_,rfl⟩:=List.mem_map.1 ha
  exact mkR_valid x]
 rfl
theorem evalL_trimL(x:Rat):∀q:List Rat,evalL (trimL q) x=evalL q x
 |[]=>rfl
 |a::r=>by
  have ih:=evalL_trimL x r
  rcases trimL_cases a r with ⟨h1,h2,e⟩|e
  ·rw[e,evalL,evalL,←ih,h1,h2,evalL];grind
  ·rw[e,evalL,evalL,ih]
theorem trimL_drop(q:List Rat):(trimL q).drop 1=trimL (q.drop 1):=by
 cases q with
 |nil=>rfl
 |cons a r =>
  rcases trimL_cases a r with ⟨h1,h2,e⟩|e
  ·rw[e];exact h1.symm
  ·rw[e];rfl
theorem trimL_derI:∀(q:List Rat) (i:Nat),trimL (derI i (trimL q))=trimL (derI i q)
 |[],_=>rfl
 |a::r,i=>by
  have ih:=trimL_derI r (i+1)
  rcases trimL_cases a r with ⟨h1,h2,e⟩|e
  ·rw[e,derI,derI,trimL_cons,←ih,h1,h2]
   rw[show ((i:Int):Rat)*0=0 from by grind];rfl
  ·rw[e,derI,derI,trimL_cons,trimL_cons,ih]
theorem deriveL_trimL(q:List Rat):deriveL (trimL q)=deriveL q:=by
 unfold deriveL
 rw[trimL_drop,trimL_derI]
theorem evalL_deriveL(q:List Rat)(x:Rat):evalL (deriveL q) x=evalL (derI 1 (q.drop 1)) x:=by
 unfold deriveL
 rw[evalL_trimL]
theorem fl_derI2{k:Nat} : ∀(q:List Rat) (i:Nat),i+q.length≤18446744073709551615→Fl k q→Fl (k+2) (derI i q)
 |[],_,_,_=>fun x hx=>by cases hx
 |a::r,i,hi,h=>by
  intro x hx
  rw[List.length_cons] at hi
  rcases List.mem_cons.1 hx with e|hx
  ·rw[e]
   have h1:=ht_mul ((i:Int):Rat) a
   have h2:=h a (List.mem_cons_self ..)
   have h3:ht ((i:Int):Rat)≤2:=by
    rw[ht_int]
    have:wl (i:Int)≤2:=wl_le (by omega)
    omega
   omega
  ·exact fl_derI2 r (i+1) (by omega) (fun y hy=>h y (List.mem_cons_of_mem _ hy)) x hx
theorem fl_deriveL{k:Nat}{q:List Rat}(hl:q.length≤65)(h:Fl k q):Fl (k+2) (deriveL q) :=
 fl_trimL (fl_derI2 _ 1 (by rw[List.length_drop];omega) (fun y hy=>h y (List.mem_of_mem_drop hy)))
theorem len_deriveL(q:List Rat):(deriveL q).length≤q.length:=by
 unfold deriveL
 have:=len_trimL (derI 1 (q.drop 1))
 rw[derI_len,List.length_drop] at this
 omega
theorem lastZ_deriveL(q:List Rat):lastZ (deriveL q)=false:=lastZ_trimL _
end Go.Proofs.YtegpfcmnjhmhjaaGreat.Sym
namespace Go.Proofs.YtegpfcmnjhmhjaaGreat.Sym
open Go Path CInt
set_option linter.unusedVariables false
theorem drop_take_map{α β:Type}{l:List α}{t:Nat}{v:α}(f:α→β)(h:l[t]? = some v):(l.take (t+1)).map f=(l.take t).map f++[f v]:=by
 rw[List.take_add_one,h,List.map_append];rfl
namespace CLw
theorem Derive(l:ALaw)(hc:chkLaw l=0)(hf:FitW 1073741824 l):Contract prg 22 [l.pv] (.tup [(deriveW l).pv,.nilI]):=by
 have g:=good_of hc
 have hk:=Check l hf
 rw[hc] at hk
 have hle:=g.le
 have hlen:=g.len
 have loop:∀(j t:Nat) (sb:List ARat) (sp:List (List ARat)),l.pieces.length-t=j→t≤l.pieces.length→sb=(l.breaks.take t).map (fun a=>mkR a.val)→sp=(l.pieces.take t).map (fun p=>(deriveL (vals p)).map mkR)→law_Derive.Loop1 l t sb sp (.tup [(deriveW l).pv,.nilI]):=by
  intro j
  induction j with
  |zero =>
   intro t sb sp hj ht hb hp
   rw[List.take_of_length_le (by omega)] at hb hp
   have e:deriveW l=⟨sb,sp⟩:=by
    unfold deriveW vals
    rw[hb,hp,List.map_map];rfl
   rw[e]
   exact law_Derive.l12 l t sb sp (by omega)
  |succ j ih =>
   intro t sb sp hj ht hb hp
   obtain⟨v,hv⟩:∃v,l.pieces[t]? = some v:=⟨_,List.getElem?_eq_getElem (by omega)⟩
   obtain⟨b,hb'⟩:∃b,l.breaks[t]? = some b:=⟨_,List.getElem?_eq_getElem (by omega)⟩
   have hvf:=hf.2 v (List.mem_of_getElem? hv)
   have hbf:=hf.1 b (List.mem_of_getElem? hb')
   have hd:=CPo.Derive v (g.ps v (List.mem_of_getElem? hv)).1 (fun a ha=>⟨by have:=(hvf a ha).1;omega,by have:=(hvf a ha).2;omega⟩)
   have ha:=CPo.addZ b ⟨by omega,by omega⟩
   have h1:sb.length=t:=by rw[hb,List.length_map,List.length_take];omega
   have h2:sp.length=t:=by rw[hp,List.length_map,List.length_take];omega
   refine law_Derive.l10 l t sb sp v _ b _ (by omega) hv hd hb' ha (by simp;omega) (by simp;omega) (by omega) (ih (t+1) _ _ (by omega) (by omega) ?_ ?_)
   ·rw[drop_take_map _ hb',hb]
   ·rw[drop_take_map _ hv,hp]
 exact law_Derive.e0 l hk (loop _ 0 [] [] rfl (by omega) rfl rfl)
end CLw
end Go.Proofs.YtegpfcmnjhmhjaaGreat.Sym
namespace Go.Proofs.YtegpfcmnjhmhjaaGreat.Sym
open Go Path CInt
set_option linter.unusedVariables false
theorem chkP_of : ∀ {ps : List (List ARat)}, (∀ p ∈ ps, chk p = 0 ∧ p.length ≤ 9) → chkP ps = 0
  | [], _ => rfl
  | a :: r, h => by
    obtain ⟨h1, h2⟩ := h a (List.mem_cons_self ..)
    rw [chkP, h1, show decide ((0 : Int) ≠ 0) = false from rfl, cond_false]
    rw [show Nat.blt 9 a.length = false from by
      cases hb : Nat.blt 9 a.length with
      | false => rfl
      | true => have : 9 < a.length := by simpa [Nat.blt_eq] using hb
                omega, cond_false]
    exact chkP_of (fun p hp => h p (List.mem_cons_of_mem _ hp))
theorem chkB_zero{l:ALaw}(h:chkLaw l=0):chkB none l.breaks=0:=by
 unfold chkLaw at h
 split at h
 ·cases h
 ·split at h
  ·cases h
  ·unfold chkR at h
   refine Classical.byContradiction fun hb => ?_
   rw[decide_eq_true hb,cond_true] at h
   exact hb h
theorem chk_derive{l:ALaw}(h:chkLaw l=0):chkLaw (deriveW l)=0:=by
 have g:=good_of h
 have hb:=chkB_zero h
 have e:(deriveW l).breaks=l.breaks:=vals_of g.valid
 have hlen:=g.len
 have hn0:=g.n0
 have hle:=g.le
 have hp:(deriveW l).pieces.length=l.pieces.length:=by unfold deriveW;simp
 unfold chkLaw
 rw[if_neg (by rw[e,hp];omega),if_neg (by rw[e];omega)]
 unfold chkR
 rw[e,hb]
 refine chkP_of (fun p hp => ?_)
 unfold deriveW at hp
 obtain⟨q,hq,rfl⟩:=List.mem_map.1 hp
 have h9:=(g.ps q hq).2
 have hd:=len_deriveL (vals q)
 have hv:(vals q).length=q.length:=by unfold vals;rw[List.length_map]
 exact⟨chk_map (lastZ_deriveL _) (by omega),by rw[List.length_map];omega⟩
theorem fitW_derive{l:ALaw}{k:Nat}(g:Good l)(hk:1≤k)(h:FitW k l):FitW (k+2) (deriveW l):=by
 have e:(deriveW l).breaks=l.breaks:=vals_of g.valid
 constructor
 ·rw[e];exact fun a ha=>⟨by have:=(h.1 a ha).1;omega,by have:=(h.1 a ha).2;omega⟩
 ·intro p hp
  unfold deriveW at hp
  obtain⟨q,hq,rfl⟩:=List.mem_map.1 hp
  have h9:=(g.ps q hq).2
  exact fit_mapk (fl_deriveL (by unfold vals;rw[List.length_map];omega) (fl_vals (h.2 q hq) hk))
end Go.Proofs.YtegpfcmnjhmhjaaGreat.Sym
namespace Go.Proofs.YtegpfcmnjhmhjaaGreat.Sym
open Go Path CInt
set_option linter.unusedVariables false
theorem ht_of_i64{n:Int}(h:InI64 n):ht (n:Rat)≤2:=by
 rw[ht_int]
 have:wl n≤2:=wl_le (by unfold InI64 at h;omega)
 omega
namespace CLw
theorem Rise1(cs:List Int)(s u:Rat)(x:ARat)(hs:ht s≤1024)(hu:ht u≤1024)(hcs:∀n∈cs,InI64 n)(hl:cs.length≤100):∀(j t:Nat) (site:List ARat) (w:Rat),cs.length-t=j→1≤t→t≤cs.length→site.length=t→ht w≤1024*(t+1)→Fl 1048576 (vals site)→FitP 1048576 site →
  law_Rise.Loop1 site cs cs.length t x (mkR s) (mkR u) (mkR w) (.tup [polyPV ((trimL (vals site++riseG s u w (cs.drop t))).map mkR),.nilI]):=by
 intro j
 induction j with
 |zero =>
  intro t site w hj h1 htt hsl hw hfl hfit
  rw[List.drop_of_length_le (by omega),riseG,List.append_nil]
  exact law_Rise.l12 site cs _ t x _ _ _ _ (by omega) (CPo.Trim site (by omega) (fun a ha=>⟨by have:=(hfit a ha).1;omega,by have:=(hfit a ha).2;omega⟩))
 |succ j ih =>
  intro t site w hj h1 htt hsl hw hfl hfit
  obtain⟨n,hn⟩:∃n,cs[t]? = some n:=⟨_,List.getElem?_eq_getElem (by omega)⟩
  have hni:=hcs n (List.mem_of_getElem? hn)
  have hof:=CFr.Of n hni
  have hn2:=ht_of_i64 hni
  have m1:=CFr.Mul (mkR (n:Rat)) (mkR w) (fit_mkR (by omega)) (fit_mkR (by omega))
  rw[mkR_val,mkR_val] at m1
  have b1:=ht_mul (n:Rat) w
  have m2:=CFr.Mul (mkR s) (mkR ((n:Rat)*w)) (fit_mkR (by omega)) (fit_mkR (by omega))
  rw[mkR_val,mkR_val] at m2
  have b2:=ht_mul s ((n:Rat)*w)
  have m3:=CFr.Mul (mkR w) (mkR u) (fit_mkR (by omega)) (fit_mkR (by omega))
  rw[mkR_val,mkR_val] at m3
  have b3:=ht_mul w u
  have hb:ht (s*((n:Rat)*w))≤1048576:=by omega
  have:=ih (t+1) (site++[mkR (s*((n:Rat)*w))]) (w*u) (by omega) (by omega) (by omega) (by simp;omega) (by omega) (by
   unfold vals;rw[List.map_append]
   intro y hy
   rcases List.mem_append.1 hy with hy|hy
   ·exact hfl y hy
   ·have:y=s*((n:Rat)*w):=by simpa[mkR_val] using hy
    rw[this];exact hb) (by
   intro a ha
   rcases List.mem_append.1 ha with ha|ha
   ·exact hfit a ha
   ·have:a=mkR (s*((n:Rat)*w)):=by simpa using ha
    rw[this];exact fit_mkRk hb)
  have e:vals (site++[mkR (s*((n:Rat)*w))])=vals site++[s*((n:Rat)*w)]:=by
   unfold vals;rw[List.map_append];simp[mkR_val]
  rw[e,List.append_assoc] at this
  rw[drop_cons hn,riseG]
  exact law_Rise.l11 site cs _ t x _ _ _ n _ _ _ _ (by omega) (by omega) hn hof m1 m2 (by omega) (by simp;omega) m3 (by omega) this
theorem Rise(len x y:ARat)(degree:Int)(h1:len.num.length≤4∧len.den.length≤4)(h2:x.num.length≤4∧x.den.length≤4)(h3:y.num.length≤4∧y.den.length≤4)(hc:riseC len x y degree=0) :
  Contract prg 26 [len.pv,x.pv,y.pv,vI degree] (.tup [polyPV ((riseL len.val x.val y.val degree).map mkR),.nilI]):=by
 unfold riseC at hc
 cases hb:(!len.valid||(decide (len.val≤0)||(!x.valid || !y.valid))) with
 |true=>rw[hb] at hc;cases hc
 |false =>
  rw[hb,cond_false] at hc
  simp only[Bool.or_eq_false_iff,Bool.not_eq_false',decide_eq_false_iff_not] at hb
  obtain⟨v1,v2,v3,v4⟩:=hb
  have c1:=CFr.Valid len ⟨by omega,by omega⟩
  have c2:=CFr.Sign len ⟨by omega,by omega⟩
  have c3:=CFr.Valid x ⟨by omega,by omega⟩
  have c4:=CFr.Valid y ⟨by omega,by omega⟩
  have hp:0<cmpR len.val 0:=cmpR_gt.2 (by grind)
  have a1:=ht_fit h1.1 h1.2 (by omega)
  have a2:=ht_fit h2.1 h2.2 (by omega)
  have a3:=ht_fit h3.1 h3.2 (by omega)
  have c5:=CFr.Sub y x ⟨by omega,by omega⟩ ⟨by omega,by omega⟩
  have b1:=ht_sub y.val x.val
  have c6:=CLw.one
  have hone:ht ((1:Int):Rat)=1:=by decide
  have c7:=CFr.Div (mkR ((1:Int):Rat)) len (fit_mkR (by omega)) ⟨by omega,by omega⟩ (by grind)
  rw[mkR_val] at c7
  have b2:=ht_div ((1:Int):Rat) len.val
  have eone:((1:Int):Rat)=1:=rfl
  have first:∀cs:List Int,cs[0]? = some 0→(∀n∈cs,InI64 n)→cs.length≤100→law_Rise.Loop1 [] cs cs.length 0 x (mkR (y.val-x.val)) (mkR (((1:Int):Rat)/len.val)) (mkR ((1:Int):Rat)) (.tup [polyPV ((trimL (x.val::riseG (y.val-x.val) (1/len.val) (1/len.val) (cs.drop 1))).map mkR),.nilI]):=by
   intro cs h0 hcs hl
   have hpos:=(List.getElem?_eq_some_iff.1 h0).1
   have hof:=CFr.Of 0 (by unfold InI64;omega)
   have z0:ht ((0:Int):Rat)=1:=by decide
   have m1:=CFr.Mul (mkR ((0:Int):Rat)) (mkR ((1:Int):Rat)) (fit_mkR (by omega)) (fit_mkR (by omega))
   rw[mkR_val,mkR_val] at m1
   have d1:=ht_mul ((0:Int):Rat) ((1:Int):Rat)
   have m2:=CFr.Mul (mkR (y.val-x.val)) (mkR (((0:Int):Rat)*((1:Int):Rat))) (fit_mkR (by omega)) (fit_mkR (by omega))
   have m3:=CFr.Mul (mkR ((1:Int):Rat)) (mkR (((1:Int):Rat)/len.val)) (fit_mkR (by omega)) (fit_mkR (by omega))
   rw[mkR_val,mkR_val] at m3
   have e:((1:Int):Rat)*(((1:Int):Rat)/len.val)=((1:Int):Rat)/len.val:=by rw[eone,Rat.one_mul]
   rw[e] at m3
   have:=Rise1 cs (y.val-x.val) (((1:Int):Rat)/len.val) x (by omega) (by omega) hcs hl _ 1 [x] (((1:Int):Rat)/len.val) rfl (by omega) (by omega) rfl (by omega) (by
    intro q hq
    have:q=x.val:=by simpa[vals] using hq
    rw[this];omega) (by
    intro a ha
    have:a=x:=by simpa using ha
    rw[this];exact⟨by omega,by omega⟩)
   exact law_Rise.l10 [] cs _ 0 x _ _ _ 0 _ _ _ _ (by omega) hpos h0 hof m1 m2 rfl (by simp) m3 (by omega) this
  unfold riseL riseN
  by_cases d1:degree=1
  ·rw[if_pos d1]
   exact law_Rise.e4 len x y degree _ _ _ _ _ _ _ _ c1 v1 c2 hp c3 v3 c4 v4 d1 c5 c6 c7 c6 (first [0,1] rfl (by unfold InI64;decide) (by decide))
  ·rw[if_neg d1]
   by_cases d3:degree=3
   ·rw[if_pos d3]
    exact law_Rise.e6 len x y degree _ _ _ _ _ _ _ _ c1 v1 c2 hp c3 v3 c4 v4 d1 d3 c5 c6 c7 c6 (first [0,0,3, -2] rfl (by unfold InI64;decide) (by decide))
   ·rw[if_neg d3]
    have d5:degree=5:=by
     refine Classical.byContradiction fun h => ?_
     rw[if_neg (by omega)] at hc;cases hc
    exact law_Rise.e8 len x y degree _ _ _ _ _ _ _ _ c1 v1 c2 hp c3 v3 c4 v4 d1 d3 d5 c5 c6 c7 c6 (first [0,0,0,10, -15,6] rfl (by unfold InI64;decide) (by decide))
end CLw
end Go.Proofs.YtegpfcmnjhmhjaaGreat.Sym
namespace Go.Proofs.YtegpfcmnjhmhjaaGreat.Sym.Path
open Go
set_option maxRecDepth 20000
set_option linter.unusedVariables false
namespace linkworklaw52_part
theorem e0(n d:Int)(mak:ARat)(mak1:Int)(h1:Contract prg 65 [(vI n),(vI d)] (.tup [mak.pv,(vI mak1)])):Contract prg 24 [(vI n),(vI d)] mak.pv :=
 Contract.ofL Tryz.func24 (by kernel_rfl) (L.done mixed tabOk (n:=78) (ns:=[1]) (tr:=[.reg [],.reg [.none,.none,(.pv (.tup [mak.pv,(vI mak1)]))],.reg []]) (cj h1 True.intro) (by kernel_rfl))
end linkworklaw52_part
namespace linkworklaw52_example
theorem e0(par par1:ARat)(h1:Contract prg 24 [(vI 1),(vI 2)] par.pv)(h2:Contract prg 24 [(vI 1),(vI 1)] par1.pv):Contract prg 23 [] ((⟨[(⟨false,[],[]⟩:ARat),par],[[],[(⟨false,[],[]⟩:ARat),par1]]⟩:ALaw).pv) :=
 Contract.ofL Tryz.func23 (by kernel_rfl) (L.done mixed tabOk (n:=72) (ns:=[1,3,1,3,3]) (tr:=[.reg [],.reg [.none,(.pv par.pv),(.slc 0 0 (([(⟨false,[],[]⟩:ARat),par]:List ARat).map ARat.cells)),.none,(.pv par1.pv),(.slc 0 0 (([(⟨false,[],[]⟩:ARat),par1]:List ARat).map ARat.cells)),(.slc 0 0 (([[],[(⟨false,[],[]⟩:ARat),par1]]:List (List ARat)).map (lcell ARat.cells)))]]) (cj h1 (cj (o_bs sz_ARat ([(⟨false,[],[]⟩:ARat),par]:List ARat)) (cj h2 (cj (o_bs sz_ARat ([(⟨false,[],[]⟩:ARat),par1]:List ARat)) (cj (o_bs (sz_l ARat.cells) ([[],[(⟨false,[],[]⟩:ARat),par1]]:List (List ARat))) True.intro))))) (by kernel_rfl))
end linkworklaw52_example
namespace linkworklaw52_awake
theorem e0(exa:ALaw)(par atV:ARat)(exa1:ALaw)(dwe:List AArc)(par1 par2:ARat)(ris:List ARat)(par3:ARat)(rat:Bool)(v:AArc)(par4:ARat)(rat1:Bool)(par5 par6:ARat)(rat2:Bool)(h1:Contract prg 23 [] exa.pv)(h2:Contract prg 24 [(vI (-1)),(vI 4)] par.pv)(h3:Contract prg 18 [exa.pv,par.pv] (.tup [atV.pv,.nilI]))(h4:Contract prg 23 [] exa1.pv)(h5:Contract prg 25 [exa1.pv] (.tup [(lpv AArc.cells dwe),.nilI]))(h6:Contract prg 24 [(vI 1),(vI 2)] par1.pv)(h7:Contract prg 24 [(vI 1),(vI 1)] par2.pv)(h8:Contract prg 26 [par1.pv,(⟨false,[],[]⟩:ARat).pv,par2.pv,(vI 3)] (.tup [(polyPV ris),.nilI]))(h9:Contract prg 24 [(vI 1),(vI 4)] par3.pv)(h10:Contract prg 20 [atV.pv,par3.pv] (vB rat))(h11:rat=true)(h12:dwe.length=1)(h13:dwe[0]? = some v)(h14:Contract prg 24 [(vI 1),(vI 2)] par4.pv)(h15:Contract prg 20 [v.toV.pv,par4.pv] (vB rat1))(h16:rat1=true)(h17:Contract prg 24 [(vI 12),(vI 1)] par5.pv)(h18:Contract prg 24 [(vI (-16)),(vI 1)] par6.pv)(h19:Contract prg 27 [(polyPV ris),(polyPV [(⟨false,[],[]⟩:ARat),(⟨false,[],[]⟩:ARat),par5,par6])] (vB rat2)):Contract prg 6 [] (vB rat2) :=
 Contract.ofL Tryz.func6 (by kernel_rfl) (L.done mixed tabOk (n:=90) (ns:=[1,1,1,1,1,1,1,1,1,1,1,1,1,1,1,1,1,1,1,1,1,1,1,1,3,1,1,1,1,1,1,1,1,1,1,1,1,1,1,1,3,1,1,1]) (tr:=[.reg [],.reg [(.pv exa.pv),(.pv par.pv),(.pv (.tup [atV.pv,.nilI]))],.reg [(.pv exa1.pv),(.pv (.tup [(lpv AArc.cells dwe),.nilI]))],.reg [(.pv par1.pv),.none,(.pv par2.pv),(.pv (.tup [(polyPV ris),.nilI]))],dr 37 1 [.none,.none,.none,.none,.none,.none,.none,.none,.none,.none,.none,.none,(.pv par3.pv),(.pv (vB rat)),.none,.none,.none,(iI (dwe.length:Int)),.none,(.dec true),.none,.none,(.row 0 (AArc.cells v)),.none,.none,(.pv par4.pv),(.pv (vB rat1)),(.dec true),.none,.none,.none,.none,(.pv par5.pv),(.pv par6.pv),(.slc 0 0 (([(⟨false,[],[]⟩:ARat),(⟨false,[],[]⟩:ARat),par5,par6]:List ARat).map ARat.cells)),(.pv (vB rat2)),(.dec true)]]) (cj h1 (cj h2 (cj h3 (cj h4 (cj h5 (cj h6 (cj h7 (cj h8 (cj (Eq.refl true) (cj (Eq.refl true) (cj (Eq.refl true) (cj (Eq.refl true) (cj (Eq.refl true) (cj (Eq.refl true) (cj h9 (cj (Eq.refl true) (cj h10 (cj h11 (cj h11 (cj (o_len AArc.cells dwe) (cj h11 (cj h11 (cj (deqN_t h12) (cj (deqN_t h12) (cj (o_at AArc.cells (Eq.refl (0:Int)) h13) (cj (deqN_t h12) (cj (deqN_t h12) (cj (deqN_t h12) (cj h14 (cj (deqN_t h12) (cj h15 (cj (deqN_t h12) (cj h16 (cj h16 (cj h16 (cj h16 (cj h17 (cj h16 (cj h18 (cj h16 (cj (o_bs sz_ARat ([(⟨false,[],[]⟩:ARat),(⟨false,[],[]⟩:ARat),par5,par6]:List ARat)) (cj h16 (cj h19 (cj h16 True.intro)))))))))))))))))))))))))))))))))))))))))))) (by kernel_rfl))
end linkworklaw52_awake
namespace linkworklaw52_long
theorem e0(x:ARat)(h1:(x.num.length+x.den.length)<9223372036854775808):Contract prg 8 [x.pv] (vB (decide ((((x.num.length+x.den.length):Nat):Int)>4))) :=
 Contract.ofL Tryz.func8 (by kernel_rfl) (L.done mixed tabOk (n:=72) (ns:=[1,1,1]) (tr:=[.reg [],.reg [.none,.none,(iI (x.num.length:Int)),.none,.none,(iI (x.den.length:Int)),(iI (((x.num.length+x.den.length):Nat):Int))]]) (cj (o_len wordPV x.num) (cj (o_len wordPV x.den) (cj (bs_addN h1) True.intro))) (by kernel_rfl))
end linkworklaw52_long
end Go.Proofs.YtegpfcmnjhmhjaaGreat.Sym.Path
namespace Go.Proofs.YtegpfcmnjhmhjaaGreat.Sym
open Go Path CInt
set_option linter.unusedVariables false
namespace C52
theorem part(n d:Int)(hn:InI64 n)(hd:InI64 d)(h0:d≠0):Contract prg 24 [vI n,vI d] (mkR (Rat.divInt n d)).pv :=
 linkworklaw52_part.e0 n d _ _ (CRb.Make n d hn hd h0)
def exL:ALaw:=⟨[⟨false,[],[]⟩,mkR (Rat.divInt 1 2)],[[],[⟨false,[],[]⟩,mkR (Rat.divInt 1 1)]]⟩
theorem example':Contract prg 23 [] exL.pv :=
 linkworklaw52_example.e0 _ _ (part 1 2 (by unfold InI64;decide) (by unfold InI64;decide) (by decide)) (part 1 1 (by unfold InI64;decide) (by unfold InI64;decide) (by decide))
theorem exL_chk:chkLaw exL=0:=by decide +kernel
theorem exL_at:atW exL (mkR (Rat.divInt (-1) 4)).val=Rat.divInt 1 4:=by decide +kernel
theorem exL_fit4:FitW 4 exL:=by
 constructor
 ·decide +kernel
 ·decide +kernel
theorem exL_fit{k:Nat}(h:4≤k):FitW k exL:=⟨fun a ha=>⟨Nat.le_trans (exL_fit4.1 a ha).1 h,Nat.le_trans (exL_fit4.1 a ha).2 h⟩,fun p hp a ha=>⟨Nat.le_trans (exL_fit4.2 p hp a ha).1 h,Nat.le_trans (exL_fit4.2 p hp a ha).2 h⟩⟩
theorem exL_dwells:Contract prg 25 [exL.pv] (.tup [lpv AArc.cells [⟨mkR 0,mkR (Rat.divInt 1 2)⟩],.nilI]):=by
 have hk:=CLw.Check exL (exL_fit (by omega))
 rw[exL_chk] at hk
 have a1:=CPo.addZ ⟨false,[],[]⟩ (by constructor<;>decide)
 have he:=CLw.end' exL 0 (by decide) (by decide) (by decide +kernel)
 have a2:=CPo.addZ (mkR (endW exL 0)) (by constructor<;>decide +kernel)
 rw[mkR_val,show endW exL 0=Rat.divInt 1 2 from by decide +kernel] at a2
 rw[show endW exL 0=Rat.divInt 1 2 from by decide +kernel] at he
 refine law_Dwells.e0 exL hk ?_
 refine law_Dwells.l13 0 false exL 0 [] [] ⟨false,[],[]⟩ _ _ _ (by decide) rfl (by decide) rfl rfl a1 he a2 rfl (by decide) (by decide) ?_
 refine law_Dwells.l10 _ true exL 1 _ [⟨false,[],[]⟩,mkR (Rat.divInt 1 1)] (by decide) rfl (by decide) (by decide) ?_
 exact law_Dwells.l14 _ false exL 2 _ (by decide) rfl
theorem awake:Contract prg 6 [] (vB true):=by
 have p1:=part (-1) 4 (by unfold InI64;decide) (by unfold InI64;decide) (by decide)
 have p2:=part 1 2 (by unfold InI64;decide) (by unfold InI64;decide) (by decide)
 have p3:=part 1 1 (by unfold InI64;decide) (by unfold InI64;decide) (by decide)
 have p4:=part 1 4 (by unfold InI64;decide) (by unfold InI64;decide) (by decide)
 have p5:=part 12 1 (by unfold InI64;decide) (by unfold InI64;decide) (by decide)
 have p6:=part (-16) 1 (by unfold InI64;decide) (by unfold InI64;decide) (by decide)
 have hat:=CLw.At exL (mkR (Rat.divInt (-1) 4)) exL_chk (exL_fit (by omega)) (mkR_valid _) (by constructor<;>decide +kernel)
 rw[exL_at] at hat
 have hri:=CLw.Rise (mkR (Rat.divInt 1 2)) ⟨false,[],[]⟩ (mkR (Rat.divInt 1 1)) 3 (by constructor<;>decide +kernel) (by constructor<;>decide) (by constructor<;>decide +kernel) (by decide +kernel)
 have r1:=CBa.Rat (mkR (Rat.divInt 1 4)) (mkR (Rat.divInt 1 4)) (by decide +kernel) (by decide +kernel)
 have r2:=CBa.Rat (mkR (Rat.divInt 1 2)) (mkR (Rat.divInt 1 2)) (by decide +kernel) (by decide +kernel)
 rw[eqR_self] at r1 r2
 have e:(riseL (mkR (Rat.divInt 1 2)).val (⟨false,[],[]⟩:ARat).val (mkR (Rat.divInt 1 1)).val 3).map mkR=[⟨false,[],[]⟩,⟨false,[],[]⟩,mkR (Rat.divInt 12 1),mkR (Rat.divInt (-16) 1)]:=by
  rw[show riseL (mkR (Rat.divInt 1 2)).val (⟨false,[],[]⟩:ARat).val (mkR (Rat.divInt 1 1)).val 3=[0,0,Rat.divInt 12 1,Rat.divInt (-16) 1] from by decide +kernel]
  rfl
 rw[e] at hri
 have r3:=CBa.Rats [⟨false,[],[]⟩,⟨false,[],[]⟩,mkR (Rat.divInt 12 1),mkR (Rat.divInt (-16) 1)] [⟨false,[],[]⟩,⟨false,[],[]⟩,mkR (Rat.divInt 12 1),mkR (Rat.divInt (-16) 1)] (by decide) (by decide +kernel)
 rw[eqRs_self] at r3
 exact linkworklaw52_awake.e0 _ _ _ _ _ _ _ _ _ _ _ _ _ _ _ _ example' p1 hat example' exL_dwells p2 p3 hri p4 r1 rfl rfl rfl p2 r2 rfl p5 p6 r3
theorem long(x:ARat)(h:x.num.length+x.den.length<9223372036854775808):Contract prg 8 [x.pv] (vB (decide (4<x.num.length+x.den.length))):=by
 have:=linkworklaw52_long.e0 x h
 rwa[show decide ((((x.num.length+x.den.length):Nat):Int)>4)=decide (4<x.num.length+x.den.length) from by congr 1;apply propext;omega] at this
end C52
end Go.Proofs.YtegpfcmnjhmhjaaGreat.Sym
namespace Go.Proofs.YtegpfcmnjhmhjaaGreat.Sym.Path
open Go
set_option maxRecDepth 20000
set_option linter.unusedVariables false
namespace linkworklaw52_large
@[reducible] noncomputable def fn:Func:=Tryz.f7
noncomputable def atK1:List Itm:=focus [0,2,0,0,2,1,2,0,0,2,0,0] [.code (bodyOf fn)]
def inv1(i_3:Nat)(l:ALaw):St:=⟨[(1,(.ptr 1 0)),(3,(eI (i_3:Int)))],[(1,(.lit [(.pv (polyPV l.breaks)),(.pv (lpv (lcell ARat.cells) l.pieces))]))]⟩
@[reducible] noncomputable def Loop1(i_3:Nat)(l:ALaw)(r:PV):Prop:=L prg fn atK1 (inv1 i_3 l) r
noncomputable def atK2:List Itm:=focus [0,2,0,0,2,1,2,0,0,2,0,0,0,0,0,2,1,2,2,2,2,0,0,2,0,0] [.code (bodyOf fn)]
def inv2(i_4:Nat)(l:ALaw):St:=⟨[(1,(.ptr 1 0)),(4,(eI (i_4:Int)))],[(1,(.lit [(.pv (polyPV l.breaks)),(.pv (lpv (lcell ARat.cells) l.pieces))]))]⟩
@[reducible] noncomputable def Loop2(i_4:Nat)(l:ALaw)(r:PV):Prop:=L prg fn atK2 (inv2 i_4 l) r
noncomputable def atK3:List Itm:=focus [0,2,0,0,2,1,2,0,0,2,0,0,0,0,0,2,1,2,2,2,2,0,0,2,0,0,0,0,0,2,0,2,0,0,0,0,2,1,2,0,2,0,0] [.code (bodyOf fn)]
def inv3(i_4 k_5:Nat)(l:ALaw):St:=⟨[(1,(.ptr 1 0)),(4,(eI (i_4:Int))),(5,(eI (k_5:Int)))],[(1,(.lit [(.pv (polyPV l.breaks)),(.pv (lpv (lcell ARat.cells) l.pieces))]))]⟩
@[reducible] noncomputable def Loop3(i_4 k_5:Nat)(l:ALaw)(r:PV):Prop:=L prg fn atK3 (inv3 i_4 k_5 l) r
theorem e0(l:ALaw)(h1:40<l.breaks.length):Contract prg 7 [l.pv] (vB true) :=
 Contract.ofL Tryz.func7 (by kernel_rfl) (L.done mixed tabOk (n:=84) (ns:=[1,1,1,1,1,1]) (tr:=[.reg [],.reg [.none,.none,(iI (l.breaks.length:Int)),.none,.none,.skip,.skip,.skip,.skip,(.dec true)],.auto,.reg []]) (cj (o_len ARat.cells l.breaks) (cj (dltN_t h1) (cj (dltN_t h1) (cj (dltN_t h1) (cj (dltN_t h1) (cj (dltN_t h1) True.intro)))))) (by kernel_rfl))
theorem e1(l:ALaw)(h1:l.breaks.length≤40)(h2:40<l.pieces.length):Contract prg 7 [l.pv] (vB true) :=
 Contract.ofL Tryz.func7 (by kernel_rfl) (L.done mixed tabOk (n:=84) (ns:=[1,1,1,1,1,1,1,1]) (tr:=[.reg [],.reg [.none,.none,(iI (l.breaks.length:Int)),.none,.none,.none,.none,(iI (l.pieces.length:Int)),.none,(.dec false)],.dec true,.reg []]) (cj (o_len ARat.cells l.breaks) (cj (dltN_f h1) (cj (dltN_f h1) (cj (dltN_f h1) (cj (o_len (lcell ARat.cells) l.pieces) (cj (dltN_f h1) (cj (dltN_f h1) (cj (dltN_t h2) True.intro)))))))) (by kernel_rfl))
theorem e2(l:ALaw){r:PV}(h1:l.breaks.length≤40)(h2:l.pieces.length≤40)(hL:Loop1 0 l r):Contract prg 7 [l.pv] r :=
 Contract.ofL Tryz.func7 (by kernel_rfl) (L.go mixed tabOk (n:=96) (ns:=[1,1,1,1,1,1,1,1]) (tr:=[.reg [],.reg [.none,.none,(iI (l.breaks.length:Int)),.none,.none,.none,.none,(iI (l.pieces.length:Int)),.none,(.dec false)],.dec false,.reg [],.keep [1,3]]) (cj (o_len ARat.cells l.breaks) (cj (dltN_f h1) (cj (dltN_f h1) (cj (dltN_f h1) (cj (o_len (lcell ARat.cells) l.pieces) (cj (dltN_f h1) (cj (dltN_f h1) (cj (dltN_f h2) True.intro)))))))) (by kernel_rfl) hL)
theorem l10(i_3:Nat)(l:ALaw)(v:ARat)(lon:Bool)(h1:i_3<l.breaks.length)(h2:l.breaks[i_3]? = some v)(h3:Contract prg 8 [v.pv] (vB lon))(h4:lon=true):Loop1 i_3 l (vB true) :=
 L.done mixed tabOk (n:=135) (ns:=[1,1,3,1,1]) (tr:=[.auto,.reg [.none,.none,.none,(iI (l.breaks.length:Int))],.dec true,.reg [.none,.none,.none,(.row i_3 (ARat.cells v)),.none,(.pv (vB lon))],.dec true,.reg []]) (cj (o_len ARat.cells l.breaks) (cj (dltN_t h1) (cj (o_at ARat.cells (Eq.refl (((i_3:Nat):Int):Int)) h2) (cj h3 (cj h4 True.intro))))) (by kernel_rfl)
theorem l11(i_3:Nat)(l:ALaw)(v:ARat)(lon:Bool){r:PV}(h1:i_3<l.breaks.length)(h2:l.breaks[i_3]? = some v)(h3:Contract prg 8 [v.pv] (vB lon))(h4:lon=false)(h5:(i_3+1)<9223372036854775808)(hL:Loop1 (i_3+1) l r):Loop1 i_3 l r :=
 L.go mixed tabOk (n:=138) (ns:=[1,1,3,1,1,1]) (tr:=[.auto,.reg [.none,.none,.none,(iI (l.breaks.length:Int))],.dec true,.reg [.none,.none,.none,(.row i_3 (ARat.cells v)),.none,(.pv (vB lon))],.dec false,.reg [.none,(iI (((i_3+1):Nat):Int))],.keep [1,3]]) (cj (o_len ARat.cells l.breaks) (cj (dltN_t h1) (cj (o_at ARat.cells (Eq.refl (((i_3:Nat):Int):Int)) h2) (cj h3 (cj h4 (cj (bs_addN h5) True.intro)))))) (by kernel_rfl) hL
theorem l12(i_3:Nat)(l:ALaw){r:PV}(h1:l.breaks.length≤i_3)(hL:Loop2 0 l r):Loop1 i_3 l r :=
 L.go mixed tabOk (n:=138) (ns:=[1,1]) (tr:=[.auto,.reg [.none,.none,.none,(iI (l.breaks.length:Int))],.dec false,.reg [],.keep [1,4]]) (cj (o_len ARat.cells l.breaks) (cj (dltN_f h1) True.intro)) (by kernel_rfl) hL
theorem l20(i_4:Nat)(l:ALaw)(v:List ARat)(h1:i_4<l.pieces.length)(h2:l.pieces[i_4]? = some v)(h3:80<v.length):Loop2 i_4 l (vB true) :=
 L.done mixed tabOk (n:=180) (ns:=[1,1,3,1,1]) (tr:=[.auto,.reg [.none,.none,.none,(iI (l.pieces.length:Int))],.dec true,.reg [.none,.none,.none,(.row i_4 ((lcell ARat.cells) v)),.none,(iI (v.length:Int))],.dec true,.reg []]) (cj (o_len (lcell ARat.cells) l.pieces) (cj (dltN_t h1) (cj (o_at (lcell ARat.cells) (Eq.refl (((i_4:Nat):Int):Int)) h2) (cj (o_len ARat.cells v) (cj (dltN_t h3) True.intro))))) (by kernel_rfl)
theorem l21(i_4:Nat)(l:ALaw)(v:List ARat){r:PV}(h1:i_4<l.pieces.length)(h2:l.pieces[i_4]? = some v)(h3:v.length≤80)(hL:Loop3 i_4 0 l r):Loop2 i_4 l r :=
 L.go mixed tabOk (n:=189) (ns:=[1,1,3,1,1]) (tr:=[.auto,.reg [.none,.none,.none,(iI (l.pieces.length:Int))],.dec true,.reg [.none,.none,.none,(.row i_4 ((lcell ARat.cells) v)),.none,(iI (v.length:Int))],.dec false,.reg [],.keep [1,4,5]]) (cj (o_len (lcell ARat.cells) l.pieces) (cj (dltN_t h1) (cj (o_at (lcell ARat.cells) (Eq.refl (((i_4:Nat):Int):Int)) h2) (cj (o_len ARat.cells v) (cj (dltN_f h3) True.intro))))) (by kernel_rfl) hL
theorem l22(i_4:Nat)(l:ALaw)(h1:l.pieces.length≤i_4):Loop2 i_4 l (vB false) :=
 L.done mixed tabOk (n:=171) (ns:=[1,1]) (tr:=[.auto,.reg [.none,.none,.none,(iI (l.pieces.length:Int))],.dec false,.reg []]) (cj (o_len (lcell ARat.cells) l.pieces) (cj (dltN_f h1) True.intro)) (by kernel_rfl)
theorem l30(i_4 k_5:Nat)(l:ALaw)(v:List ARat)(v1:ARat)(lon:Bool)(h1:l.pieces[i_4]? = some v)(h2:k_5<v.length)(h3:v[k_5]? = some v1)(h4:Contract prg 8 [v1.pv] (vB lon))(h5:lon=true):Loop3 i_4 k_5 l (vB true) :=
 L.done mixed tabOk (n:=228) (ns:=[3,1,1,3,3,1,1]) (tr:=[.auto,.reg [.none,.none,.none,.none,(.row i_4 ((lcell ARat.cells) v)),.none,(iI (v.length:Int))],.dec true,.reg [.none,.none,.none,(.row i_4 ((lcell ARat.cells) v)),.none,.none,(.row k_5 (ARat.cells v1)),.none,(.pv (vB lon))],.dec true,.reg []]) (cj (o_at (lcell ARat.cells) (Eq.refl (((i_4:Nat):Int):Int)) h1) (cj (o_len ARat.cells v) (cj (dltN_t h2) (cj (o_at (lcell ARat.cells) (Eq.refl (((i_4:Nat):Int):Int)) h1) (cj (o_at ARat.cells (Eq.refl (((k_5:Nat):Int):Int)) h3) (cj h4 (cj h5 True.intro))))))) (by kernel_rfl)
theorem l31(i_4 k_5:Nat)(l:ALaw)(v:List ARat)(v1:ARat)(lon:Bool){r:PV}(h1:l.pieces[i_4]? = some v)(h2:k_5<v.length)(h3:v[k_5]? = some v1)(h4:Contract prg 8 [v1.pv] (vB lon))(h5:lon=false)(h6:(k_5+1)<9223372036854775808)(hL:Loop3 i_4 (k_5+1) l r):Loop3 i_4 k_5 l r :=
 L.go mixed tabOk (n:=231) (ns:=[3,1,1,3,3,1,1,1]) (tr:=[.auto,.reg [.none,.none,.none,.none,(.row i_4 ((lcell ARat.cells) v)),.none,(iI (v.length:Int))],.dec true,.reg [.none,.none,.none,(.row i_4 ((lcell ARat.cells) v)),.none,.none,(.row k_5 (ARat.cells v1)),.none,(.pv (vB lon))],.dec false,.reg [.none,(iI (((k_5+1):Nat):Int))],.keep [1,4,5]]) (cj (o_at (lcell ARat.cells) (Eq.refl (((i_4:Nat):Int):Int)) h1) (cj (o_len ARat.cells v) (cj (dltN_t h2) (cj (o_at (lcell ARat.cells) (Eq.refl (((i_4:Nat):Int):Int)) h1) (cj (o_at ARat.cells (Eq.refl (((k_5:Nat):Int):Int)) h3) (cj h4 (cj h5 (cj (bs_addN h6) True.intro)))))))) (by kernel_rfl) hL
theorem l32(i_4 k_5:Nat)(l:ALaw)(v:List ARat){r:PV}(h1:l.pieces[i_4]? = some v)(h2:v.length≤k_5)(h3:(i_4+1)<9223372036854775808)(hL:Loop2 (i_4+1) l r):Loop3 i_4 k_5 l r :=
 L.go mixed tabOk (n:=222) (ns:=[3,1,1,1]) (tr:=[.auto,.reg [.none,.none,.none,.none,(.row i_4 ((lcell ARat.cells) v)),.none,(iI (v.length:Int))],.dec false,.reg [.none,(iI (((i_4+1):Nat):Int))],.keep [1,4]]) (cj (o_at (lcell ARat.cells) (Eq.refl (((i_4:Nat):Int):Int)) h1) (cj (o_len ARat.cells v) (cj (dltN_f h2) (cj (bs_addN h3) True.intro)))) (by kernel_rfl) hL
end linkworklaw52_large
end Go.Proofs.YtegpfcmnjhmhjaaGreat.Sym.Path
namespace Go.Proofs.YtegpfcmnjhmhjaaGreat.Sym
open Go Path CInt
set_option linter.unusedVariables false
namespace C52
def Small(l:ALaw):Prop:=l.breaks.length≤40∧l.pieces.length≤40∧FitW 4 l∧∀p∈l.pieces,p.length≤80
def Held(l:ALaw):Prop:=(∀a∈l.breaks,a.num.length+a.den.length<9223372036854775808)∧∀p∈l.pieces,∀a∈p,a.num.length+a.den.length<9223372036854775808
theorem large(l:ALaw)(hh:Held l):Contract prg 7 [l.pv] (vB true)∨(Small l∧Contract prg 7 [l.pv] (vB false)):=by
 by_cases h1:40<l.breaks.length
 ·exact Or.inl (linkworklaw52_large.e0 l h1)
 by_cases h2:40<l.pieces.length
 ·exact Or.inl (linkworklaw52_large.e1 l (by omega) h2)
 have small:∀{a:ARat},¬4<a.num.length+a.den.length→a.num.length≤4∧a.den.length≤4:=fun h=>by omega
 have loop3:∀(i:Nat) (v:List ARat),l.pieces[i]? = some v→v.length≤80→(linkworklaw52_large.Loop2 (i+1) l (vB true)∨((∀p∈l.pieces.drop (i+1),FitP 4 p∧p.length≤80)∧linkworklaw52_large.Loop2 (i+1) l (vB false))) →
   ∀(j k:Nat),v.length-k=j→(linkworklaw52_large.Loop3 i k l (vB true)∨(FitP 4 (v.drop k)∧(∀p∈l.pieces.drop (i+1),FitP 4 p∧p.length≤80)∧linkworklaw52_large.Loop3 i k l (vB false))):=by
  intro i v hv hlv hnext j
  have hi:=(List.getElem?_eq_some_iff.1 hv).1
  induction j with
  |zero =>
   intro k hj
   rcases hnext with h|⟨h,h'⟩
   ·exact Or.inl (linkworklaw52_large.l32 i k l v hv (by omega) (by omega) h)
   ·refine Or.inr ⟨?_,h,linkworklaw52_large.l32 i k l v hv (by omega) (by omega) h'⟩
    rw[List.drop_of_length_le (by omega)];exact fun a ha=>by cases ha
  |succ j ih =>
   intro k hj
   obtain⟨u,hu⟩:∃u,v[k]? = some u:=⟨_,List.getElem?_eq_getElem (by omega)⟩
   have hl:=long u (hh.2 v (List.mem_of_getElem? hv) u (List.mem_of_getElem? hu))
   by_cases h4:4<u.num.length+u.den.length
   ·rw[decide_eq_true h4] at hl
    exact Or.inl (linkworklaw52_large.l30 i k l v u _ hv (by omega) hu hl rfl)
   ·rw[decide_eq_false h4] at hl
    rcases ih (k+1) (by omega) with h|⟨h,h',h''⟩
    ·exact Or.inl (linkworklaw52_large.l31 i k l v u _ hv (by omega) hu hl rfl (by omega) h)
    ·refine Or.inr ⟨?_,h',linkworklaw52_large.l31 i k l v u _ hv (by omega) hu hl rfl (by omega) h''⟩
     rw[drop_cons hu]
     intro a ha
     rcases List.mem_cons.1 ha with e|ha
     ·rw[e];exact small h4
     ·exact h a ha
 have loop2:∀(j i:Nat),l.pieces.length-i=j→(linkworklaw52_large.Loop2 i l (vB true)∨((∀p∈l.pieces.drop i,FitP 4 p∧p.length≤80)∧linkworklaw52_large.Loop2 i l (vB false))):=by
  intro j
  induction j with
  |zero =>
   intro i hj
   refine Or.inr ⟨?_,linkworklaw52_large.l22 i l (by omega)⟩
   rw[List.drop_of_length_le (by omega)];exact fun a ha=>by cases ha
  |succ j ih =>
   intro i hj
   obtain⟨v,hv⟩:∃v,l.pieces[i]? = some v:=⟨_,List.getElem?_eq_getElem (by omega)⟩
   by_cases h80:80<v.length
   ·exact Or.inl (linkworklaw52_large.l20 i l v (by omega) hv h80)
   ·rcases loop3 i v hv (by omega) (ih (i+1) (by omega)) _ 0 rfl with h|⟨h,h',h''⟩
    ·exact Or.inl (linkworklaw52_large.l21 i l v (by omega) hv (by omega) h)
    ·refine Or.inr ⟨?_,linkworklaw52_large.l21 i l v (by omega) hv (by omega) h''⟩
     rw[drop_cons hv]
     intro p hp
     rcases List.mem_cons.1 hp with e|hp
     ·rw[e];exact⟨by rwa[List.drop_zero] at h,by omega⟩
     ·exact h' p hp
 have loop1:∀(j i:Nat),l.breaks.length-i=j→(linkworklaw52_large.Loop1 i l (vB true)∨(FitP 4 (l.breaks.drop i)∧(∀p∈l.pieces,FitP 4 p∧p.length≤80)∧linkworklaw52_large.Loop1 i l (vB false))):=by
  intro j
  induction j with
  |zero =>
   intro i hj
   rcases loop2 _ 0 rfl with h|⟨h,h'⟩
   ·exact Or.inl (linkworklaw52_large.l12 i l (by omega) h)
   ·rw[List.drop_zero] at h
    refine Or.inr ⟨?_,h,linkworklaw52_large.l12 i l (by omega) h'⟩
    rw[List.drop_of_length_le (by omega)];exact fun a ha=>by cases ha
  |succ j ih =>
   intro i hj
   obtain⟨u,hu⟩:∃u,l.breaks[i]? = some u:=⟨_,List.getElem?_eq_getElem (by omega)⟩
   have hl:=long u (hh.1 u (List.mem_of_getElem? hu))
   by_cases h4:4<u.num.length+u.den.length
   ·rw[decide_eq_true h4] at hl
    exact Or.inl (linkworklaw52_large.l10 i l u _ (by omega) hu hl rfl)
   ·rw[decide_eq_false h4] at hl
    rcases ih (i+1) (by omega) with h|⟨h,h',h''⟩
    ·exact Or.inl (linkworklaw52_large.l11 i l u _ (by omega) hu hl rfl (by omega) h)
    ·refine Or.inr ⟨?_,h',linkworklaw52_large.l11 i l u _ (by omega) hu hl rfl (by omega) h''⟩
     rw[drop_cons hu]
     intro a ha
     rcases List.mem_cons.1 ha with e|ha
     ·rw[e];exact small h4
     ·exact h a ha
 rcases loop1 _ 0 rfl with h|⟨h,h',h''⟩
 ·exact Or.inl (linkworklaw52_large.e2 l (by omega) (by omega) h)
 ·rw[List.drop_zero] at h
  exact Or.inr ⟨⟨by omega,by omega,⟨h,fun p hp=>(h' p hp).1⟩,fun p hp=>(h' p hp).2⟩,linkworklaw52_large.e2 l (by omega) (by omega) h''⟩
end C52
end Go.Proofs.YtegpfcmnjhmhjaaGreat.Sym
namespace Go.Proofs.YtegpfcmnjhmhjaaGreat.Sym
open Go Go.RowKit Go.ChangeShapes Go.WideShapes
set_option linter.unusedVariables false
theorem opens_ALaw:Opens prg 25 ALaw.cells C52.Held:=by
 intro H enc w base spare held fuel cs x h hwt
 obtain⟨fs,hu,e⟩:=flds_spec (show fldsOf (prg.underlying 25)=some [(22,0),(23,1)] by kernel_rfl)
 have hl:=opens_struct hu h
 have hl:cs.length=1+1:=hl.trans (by kernel_rfl)
 obtain⟨a,r0,q0⟩:=opens_field hu h hwt 0 0 1 (e 0) (by kernel_rfl) opens_rats
 obtain⟨b,r1,q1⟩:=opens_field hu h hwt 1 1 1 (e 1) (by kernel_rfl) opens_polys
 refine⟨⟨a,b⟩,?_,fun u hu=>lenR_sum (q0 u hu),fun p hp u hu=>lenR_sum (q1 p hp u hu)⟩
 rw[split2 cs 1 1 hl]
 exact rdCells_append r0 r1
end Go.Proofs.YtegpfcmnjhmhjaaGreat.Sym
namespace Go.Proofs.YtegpfcmnjhmhjaaGreat.Sym
open Go Go.RowKit Go.Shelf
set_option linter.unusedVariables false
theorem Bel.grow(hS:Str){w w':World}(h:Bel w.heap.size w w'):∃q os',w'=Sort.grow (w.drewN q) os':=by
 refine⟨w'.drawn-w.drawn,w'.heap.extract w.heap.size w'.heap.size,?_⟩
 obtain⟨⟨h1,h2,h3,h4,h5⟩,h6⟩:=h
 have h6:=h6 hS
 obtain⟨hp,tp,dr,os,out⟩:=w
 obtain⟨hp',tp',dr',os',out'⟩:=w'
 simp only[Sort.grow,World.drewN] at *
 subst h1;subst h2;subst h3
 have e1:dr+(dr'-dr)=dr':=by omega
 have e2:hp++hp'.extract hp.size hp'.size=hp':=by
  apply Array.ext_getElem?
  intro i
  by_cases hi:i<hp.size
  ·rw[Array.getElem?_append_left hi,h5 i hi]
  ·rw[Array.getElem?_append_right (by omega),Array.getElem?_extract]
   by_cases hj:i<hp'.size
   ·rw[if_pos (by omega)]
    congr 1;omega
   ·rw[if_neg (by omega),Array.getElem?_eq_none (by omega)]
 rw[e1,e2]
def encA(arr:Array Value)(off k n x:Nat):List Value:=(List.range k).map fun j=>arr.getD (off+((bif Nat.blt x n then x else 0)*k+j)) undef
theorem encA_len(arr:Array Value)(off k n x:Nat):(encA arr off k n x).length=k:=by simp[encA]
def clN(n x:Nat):Nat:=bif Nat.blt x n then x else 0
theorem clN_lt{n x:Nat}(h:0<n):clN n x<n:=by
 unfold clN
 cases hb:Nat.blt x n with
 |true=>exact Nat.le_of_ble_eq_true hb
 |false=>exact h
theorem clN_id{n x:Nat}(h:x<n):clN n x=x:=by
 unfold clN
 have:Nat.blt x n=true:=Nat.ble_eq_true_of_le h
 rw[this];rfl
theorem encA_get{arr:Array Value}{off k n x j:Nat}(hj:j<k):(encA arr off k n x)[j]? = some (arr.getD (off+(clN n x*k+j)) undef):=by
 unfold encA
 rw[List.getElem?_map,List.getElem?_range hj]
 rfl
def cfx(c:List PV→List PV→Int)(xs:List (List PV))(x y:Nat):Int:=c (xs.getD (clN xs.length x) []) (xs.getD (clN xs.length y) [])
structure Swo (c:List PV→List PV→Int) (xs:List (List PV)):Prop where
 irrefl:∀a∈xs,¬c a a<0
 trans:∀a∈xs,∀b∈xs,∀d∈xs,c a b<0→c b d<0→c a d<0
 ntrans:∀a∈xs,∀b∈xs,∀d∈xs,¬c a b<0→¬c b d<0→¬c a d<0
theorem getD_mem{α:Type}{xs:List α}{i:Nat}{d:α}(h:i<xs.length):xs.getD i d∈xs:=by
 rw[List.getD_eq_getElem?_getD,List.getElem?_eq_getElem h,Option.getD_some]
 exact List.getElem_mem h
theorem Swo.places{c:List PV→List PV→Int}{xs:List (List PV)}(h:Swo c xs)(h0:0<xs.length):Sort.SWO (ltOf (cfx c xs)) where
 irrefl x:=by
  have:=h.irrefl _ (getD_mem (d:=[]) (clN_lt (x:=x) h0))
  unfold ltOf cfx;exact decide_eq_false this
 trans x y z h1 h2:=by
  unfold ltOf cfx at *
  exact decide_eq_true (h.trans _ (getD_mem (clN_lt h0)) _ (getD_mem (clN_lt h0)) _ (getD_mem (clN_lt h0)) (of_decide_eq_true h1) (of_decide_eq_true h2))
 ntrans x y z h1 h2:=by
  unfold ltOf cfx at *
  exact decide_eq_false (h.ntrans _ (getD_mem (clN_lt h0)) _ (getD_mem (clN_lt h0)) _ (getD_mem (clN_lt h0)) (of_decide_eq_false h1) (of_decide_eq_false h2))
def sortIx(c:List PV→List PV→Int)(xs:List (List PV)):Array Nat:=Sort.pdq (ltOf (cfx c xs)) (Array.range xs.length) 0 xs.length (Lib.bitLen xs.length) true true
def sortBy(c:List PV→List PV→Int)(xs:List (List PV)):List (List PV):=(sortIx c xs).toList.map (xs.getD · [])
section
variable {c:List PV→List PV→Int} {xs:List (List PV)}
theorem sortIx_spec(h:Swo c xs)(h0:0<xs.length):(sortIx c xs).toList.Perm (List.range xs.length)∧Sort.SortedIn (ltOf (cfx c xs)) 0 xs.length (sortIx c xs):=by
 obtain⟨⟨g1,g2,g3⟩,g4⟩:=Sort.pdq_sorts (ltOf (cfx c xs)) (h.places h0) (Array.range xs.length) 0 xs.length (Lib.bitLen xs.length) true true (Nat.zero_le _) (by simp) (Or.inl rfl)
 refine⟨?_,g4⟩
 rw[Array.size_range] at g1
 have e1:((Sort.pdq (ltOf (cfx c xs)) (Array.range xs.length) 0 xs.length (Lib.bitLen xs.length) true true).extract 0 xs.length)=sortIx c xs:=by
  show(sortIx c xs).extract 0 xs.length=_
  have:xs.length=(sortIx c xs).size:=g1.symm
  generalize sortIx c xs=z at this
  rw[this]
  exact Array.extract_size
 have e2:(Array.range xs.length).extract 0 xs.length=Array.range xs.length:=by
  conv=>lhs;arg 3;rw[←Array.size_range (n:=xs.length)]
  exact Array.extract_size
 rw[e1,e2,Array.toList_range] at g3
 exact g3
theorem sortIx_size(h:Swo c xs)(h0:0<xs.length):(sortIx c xs).size=xs.length:=by
 have:=(sortIx_spec h h0).1.length_eq
 simpa using this
theorem sortIx_lt(h:Swo c xs)(h0:0<xs.length){i:Nat}(hi:i∈(sortIx c xs).toList):i<xs.length:=by
 have:=(sortIx_spec h h0).1.mem_iff.1 hi
 simpa using this
theorem range_getD{α:Type}(l:List α)(d:α):(List.range l.length).map (l.getD · d)=l:=by
 apply List.ext_getElem?
 intro i
 rw[List.getElem?_map]
 by_cases hi:i<l.length
 ·rw[List.getElem?_range hi,Option.map_some,List.getD_eq_getElem?_getD,List.getElem?_eq_getElem hi];rfl
 ·rw[List.getElem?_eq_none (by simpa using hi),List.getElem?_eq_none (by omega)];rfl
theorem sortBy_perm(h:Swo c xs)(h0:0<xs.length):(sortBy c xs).Perm xs:=by
 have:=(sortIx_spec h h0).1.map (xs.getD · [])
 rw[range_getD] at this
 exact this
theorem sortBy_sorted(h:Swo c xs)(h0:0<xs.length):(sortBy c xs).Pairwise fun a b=>¬c b a<0:=by
 unfold sortBy
 rw[List.pairwise_map,List.pairwise_iff_getElem]
 intro i j hi hj hij
 have hs:=sortIx_size h h0
 have hi':i<xs.length:=by rw[←hs];simpa using hi
 have hj':j<xs.length:=by rw[←hs];simpa using hj
 have:=(sortIx_spec h h0).2 i j (Nat.zero_le _) hij hj'
 have e:∀(q:Nat) (hq:q<(sortIx c xs).toList.length),(sortIx c xs)[q]! = (sortIx c xs).toList[q]:=fun q hq=>by
  rw[getElem!_pos _ q (by simpa using hq)];rfl
 rw[e j hj,e i hi] at this
 have h1:=of_decide_eq_false (p:=cfx c xs _ _<0) this
 unfold cfx at h1
 rw[clN_id (sortIx_lt h h0 (List.getElem_mem hj)),clN_id (sortIx_lt h h0 (List.getElem_mem hi))] at h1
 exact h1
end
theorem sortW_heap(enc:Nat→List Value)(k:Nat)(w:World)(b off m:Nat)(d:Array Nat)(os:Array Obj)(x:Nat)(hx:x<w.heap.size) :
  (sortWorldK enc k w b off m d os).heap[x]? = if b=x then w.heap[x]?.map (Sort.onCells (Sort.putCells id off (Sort.flatK enc k d))) else w.heap[x]? := by
 unfold sortWorldK Sort.putRowK Sort.putRow Sort.mapBlock Sort.grow Sort.ahead
 simp only
 rw[Array.getElem?_append_left (by simpa using hx),Array.getElem?_modify]
theorem sortW_size(enc:Nat→List Value)(k:Nat)(w:World)(b off m:Nat)(d:Array Nat)(os:Array Obj) :
  (sortWorldK enc k w b off m d os).heap.size=w.heap.size+os.size:=by
 unfold sortWorldK Sort.putRowK Sort.putRow Sort.mapBlock Sort.grow Sort.ahead
 simp
end Go.Proofs.YtegpfcmnjhmhjaaGreat.Sym
namespace Go.Proofs.YtegpfcmnjhmhjaaGreat.Sym
open Go Go.RowKit Go.Shelf
set_option linter.unusedVariables false
theorem Callable.enters {P : Program} {f : FuncId} (hc : Callable P f) : ∀ args w, (callFunc f args).run P w = .ok (.enter f args) w := by
  obtain ⟨fn, h1, h2, h3⟩ := hc
  intro args w
  have hb : fn.body ≠ none := by intro e; rw [e] at h2; cases h2
  have h3' : fn.name ≠ "runtime.NumGoroutine" := by simpa using h3
  simp [callFunc, h1, h3', hb]
theorem getD_row{α:Type}{xs:List α}{i:Nat}{d:α}(h:i<xs.length):xs[i]? = some (xs.getD i d):=by
 rw[List.getD_eq_getElem?_getD,List.getElem?_eq_getElem h,Option.getD_some]
section
variable {P:Program} {ρ:Ren} {k off cap b:Nat} {I1:Nat→Prop} {w:World} {arr:Array Value} {el:TypeId} {xs:List (List PV)} {c:List PV→List PV→Int}
theorem encA_row(hrow:∀(i j:Nat) row x,xs[i]? = some row→row[j]? = some x→∃u,arr[off+(i*k+j)]? = some u∧u.oneCell'=true∧Rd I1 w x u)
  (hlen:∀row∈xs,row.length=k) (h0:0<xs.length) (x:Nat):(∀v∈encA arr off k xs.length x,v.oneCell'=true)∧Rd I1 w (.agg (xs.getD (clN xs.length x) [])) (.agg (encA arr off k xs.length x).toArray):=by
 have hc:=clN_lt (x:=x) h0
 have hr:=getD_row (d:=[]) hc
 have hl:=hlen _ (List.mem_of_getElem? hr)
 have key:∀j,j<k→∃p u,(xs.getD (clN xs.length x) [])[j]? = some p∧(encA arr off k xs.length x)[j]? = some u∧u.oneCell'=true∧Rd I1 w p u:=fun j hj=>by
  have hp:(xs.getD (clN xs.length x) [])[j]? = some ((xs.getD (clN xs.length x) [])[j]'(by rw[hl];exact hj)):=List.getElem?_eq_getElem _
  obtain⟨u,h1,h2,h3⟩:=hrow _ j _ _ hr hp
  refine⟨_,u,hp,?_,h2,h3⟩
  rw[encA_get hj,Array.getD_eq_getD_getElem?,h1];rfl
 refine⟨fun v hv => ?_,?_⟩
 ·obtain⟨j,hj,hv⟩:=List.getElem_of_mem hv
  rw[encA_len] at hj
  obtain⟨p,u,_,h2,h3,_⟩:=key j hj
  rw[List.getElem?_eq_getElem (by rw[encA_len];exact hj)] at h2
  injection h2 with h2
  rw[←hv,h2];exact h3
 ·refine .agg _ _ (by rw[hl];simp[encA_len]) (fun j q hq => ?_) (fun j q u hq hu => ?_)
  ·have hj:j<k:=by rw[←hl];exact(List.getElem?_eq_some_iff.1 hq).1
   obtain⟨p,u,h1,h2,h3,h4⟩:=key j hj
   rw[hq] at h1;injection h1 with h1;subst h1
   exact PV.one_of_cell h4 h3
  ·have hj:j<k:=by rw[←hl];exact(List.getElem?_eq_some_iff.1 hq).1
   obtain⟨p,u',h1,h2,h3,h4⟩:=key j hj
   rw[hq] at h1;injection h1 with h1;subst h1
   rw[List.getElem?_toArray,h2] at hu
   injection hu with hu;subst hu
   exact h4
theorem sortW_cell{enc:Nat→List Value}{m:Nat}{d:Array Nat}{os:Array Obj}{x:Nat}(hx:x<w.heap.size)(hb:x≠b)(o:Nat) :
  (sortWorldK enc k w b off m d os).cell? ⟨x,o,none⟩=w.cell? ⟨x,o,none⟩ :=
 cell_heap (by rw[sortW_heap _ _ _ _ _ _ _ _ _ hx,if_neg (fun h=>hb h.symm)]) o
theorem sort_core(hS:Str)(L:SlLaysF0.n6 P ρ)(aE:∀w,(isAgg (ρ.t 24)).run P w = .ok true w)(zE:∀w,(Go.sizeOf (ρ.t 24)).run P w = .ok k w)
  (hb:w.heap[b]? = some (.cells arr el (0,0))) (hI:∀x,I1 x→x<w.heap.size∧x≠b)
  (hrow:∀(i j:Nat) row x,xs[i]? = some row→row[j]? = some x→∃u,arr[off+(i*k+j)]? = some u∧u.oneCell'=true∧Rd I1 w x u)
  (hlen:∀row∈xs,row.length=k) (h0:0<xs.length) (hk0:0<k) (hsz:xs.length<4611686018427387904) (hO:Swo c xs)
  {g:FuncId} {ex:List EV} {cb:Array Value} (hex:ex.length=cb.size) (hcb:∀(j:Nat) e v,ex[j]? = some e→cb[j]? = some v→RE (fun _=>none) (dom []) I1 w e v)
  (hcmp:∀a∈xs,∀b∈xs,ContractX P g (.pv (.agg a) :: .pv (.agg b)::ex) [] (.pv (.int .i64 (c a b))) []) :
  Calls P (ρ.f 6) #[.slice (some ⟨b,off,none⟩) xs.length cap,.func (.func g) #[] cb] w fun e w' =>
   e = .returned (.tuple #[])∧∃m os,w'=sortWorldK (encA arr off k xs.length) k w b off m (sortIx c xs) os:=by
 have hmem:∀x,xs.getD (clN xs.length x) []∈xs:=fun x=>getD_mem (clN_lt h0)
 have hnd:∀x,¬dom [] x:=fun x h=>by simp[dom,Sto.get] at h
 have hbs:b<w.heap.size:=(Array.getElem?_eq_some_iff.1 hb).1
 have eg:=(hcmp _ (hmem 0) _ (hmem 0)).1.enters
 have hH:Sort.HoldsK (encA arr off k xs.length) k w b off (Array.range xs.length):=by
  intro j hj
  rw[Sort.size_flatK,Array.size_range] at hj
  have hq:j/k<xs.length:=Nat.div_lt_of_lt_mul (by rwa[Nat.mul_comm])
  have hm:j%k<k:=Nat.mod_lt _ hk0
  have hr:=getD_row (d:=[]) hq
  have hp:(xs.getD (j/k) [])[j%k]? = some ((xs.getD (j/k) [])[j%k]'(by rw[hlen _ (List.mem_of_getElem? hr)];exact hm)):=List.getElem?_eq_getElem _
  obtain⟨u,h1,h2,h3⟩:=hrow _ _ _ _ hr hp
  have hjk:j/k*k+j%k=j:=by rw[Nat.mul_comm];exact Nat.div_add_mod _ _
  refine⟨?_,by simp[World.frozen?,hb]⟩
  rw[Sort.get_flatK _ _ _ _ (by simpa using hj)]
  have e1:(Array.range xs.length)[j/k]! = j/k:=by
   rw[getElem!_pos _ _ (by simpa using hq)];simp
  rw[e1]
  have e2:=encA_get (arr:=arr) (off:=off) (n:=xs.length) (x:=j/k) hm
  rw[clN_id hq,Array.getD_eq_getD_getElem?,h1] at e2
  rw[List.getElem!_eq_getElem?_getD,e2]
  rw[hjk] at h1
  show w.cell? ⟨b,off+j,none⟩=some u
  simp[World.cell?,hb,h1]
 have hC:CmpLays P g cb (encA arr off k xs.length) k (cfx c xs) b off (Array.range xs.length).size w:=by
  intro m os dk hdk x y
  have hc:=hcmp _ (hmem x) _ (hmem y)
  have hcell:∀(q o:Nat),I1 q→(sortWorldK (encA arr off k xs.length) k w b off m dk os).cell? ⟨q,o,none⟩=w.cell? ⟨q,o,none⟩:=fun q o hq=>sortW_cell (hI q hq).1 (hI q hq).2 o
  have rx:=(encA_row hrow hlen h0 x).2.mono (fun _ h=>h) hcell
  have ry:=(encA_row hrow hlen h0 y).2.mono (fun _ h=>h) hcell
  refine(hc.2 I1 _ (fun _=>none) _ (fun q hq => ?_) (stoOk_nil _ _ _) (by simp[hex];omega) (fun j e v he hv => ?_)).mono fun e w' hp => ?_
  ·rw[sortW_size];exact Nat.lt_of_lt_of_le (hI q hq).1 (Nat.le_add_right _ _)
  ·cases j with
   |zero =>
    rw[Array.getElem?_append_left (by simp)] at hv
    injection he with he;subst he
    simp at hv;subst hv;exact rx
   |succ j =>
    cases j with
    |zero =>
     rw[Array.getElem?_append_left (by simp)] at hv
     injection he with he;subst he
     simp at hv;subst hv;exact ry
    |succ j =>
     have he':ex[j]? = some e:=by simpa using he
     have hv':cb[j]? = some v:=by
      rw[Array.getElem?_append_right (by simp)] at hv
      simpa using hv
     exact(hcb j e v he' hv').mono (fun r h=>absurd h (hnd r)) (fun _ h=>h) (fun _ h=>h) hcell (fun r _ h=>absurd h (hnd r))
  ·obtain⟨v,β',rfl,_,hk,_,hre,_⟩:=hp
   have hre:Rd _ _ (.int .i64 (cfx c xs x y)) v:=hre
   refine⟨congrArg _ (rd_int hre),?_⟩
   exact Bel.grow hS ⟨⟨hk.os,hk.tape,hk.output,hk.size,fun q hq=>hk.block q hq (fun ⟨x,hx,_⟩=>hnd x hx)⟩,hk.drawn⟩
 have hcon:=AnyQ.slices_SortFunc_eq L k aE zE (encA arr off k xs.length) (encA_len arr off k xs.length) (fun x=>(encA_row hrow hlen h0 x).1) (cfx c xs) (hO.places h0) g cb b off cap (Array.range xs.length) w eg hC hH hbs (by simpa using hsz)
 rw[Array.size_range] at hcon
 exact hcon
end
theorem flat_inv{k:Nat} : ∀{ys:List (List PV)} {t:Nat} {e:PV},(∀row∈ys,row.length=k)→ys.flatten[t]? = some e→∃row,ys[t/k]? = some row∧row[t%k]? = some e∧t<ys.length*k
 |[],t,e,_,h=>by simp at h
 |r::ys,t,e,hl,h=>by
  have hr:r.length=k:=hl r (by simp)
  rw[List.flatten_cons] at h
  by_cases ht:t<k
  ·rw[List.getElem?_append_left (by omega)] at h
   refine⟨r,by rw[Nat.div_eq_of_lt ht];rfl,by rw[Nat.mod_eq_of_lt ht];exact h,?_⟩
   rw[List.length_cons,Nat.succ_mul];omega
  ·rw[List.getElem?_append_right (by omega),hr] at h
   obtain⟨row,h1,h2,h3⟩:=flat_inv (fun row hr=>hl row (by simp[hr])) h
   have hk:0<k:=by
    rcases Nat.eq_zero_or_pos k with h0|h0
    ·subst h0;simp at h3
    ·exact h0
   obtain⟨s,rfl⟩:∃s,t=s+k:=⟨t-k,by omega⟩
   rw[Nat.add_sub_cancel] at h1 h2 h3
   refine⟨row,by rw[Nat.add_div_right _ hk];exact h1,by rw[Nat.add_mod_right];exact h2,?_⟩
   rw[List.length_cons,Nat.succ_mul];omega
theorem sortBy_len{c:List PV→List PV→Int}{xs:List (List PV)}{k:Nat}(hO:Swo c xs)(h0:0<xs.length)(hl:∀row∈xs,row.length=k):∀row∈sortBy c xs,row.length=k :=
 fun row hr=>hl row ((sortBy_perm hO h0).mem_iff.1 hr)
section
variable {P:Program} {ρ:Ren} {k n:Nat} {xs:List (List PV)} {c:List PV→List PV→Int}
theorem sort_fn(hS:Str)(L:SlLaysF0.n6 P ρ)(hf:Callable P (ρ.f 6))(aE:∀w,(isAgg (ρ.t 24)).run P w = .ok true w)(zE:∀w,(Go.sizeOf (ρ.t 24)).run P w = .ok k w)
  (pre post:List PV) (y:Nat) (hlen:∀row∈xs,row.length=k) (hn:xs.length=n) (h0:0<n) (hk0:0<k) (hsz:n<4611686018427387904) (hO:Swo c xs) {g:FuncId}
  (hcmp:∀a∈xs,∀b∈xs,Contract P g [.agg a,.agg b] (.int .i64 (c a b))) :
  ContractX P (ρ.f 6) [.row y pre.length n k,.pv (.fn g)] [(y,.pure (pre++xs.flatten++post))] (.pv (.tup [])) [(y,.pure (pre++(sortBy c xs).flatten++post))]:=by
 subst hn
 refine⟨hf,fun I w β vs hI hso hl hre => ?_⟩
 have hdy:dom [(y,SC.pure (pre++xs.flatten++post))] y:=by simp[dom,Sto.get]
 have hdq:∀{sc:SC} q,dom [(y,sc)] q→q=y:=fun q h=>by
  unfold dom at h
  simp only[Sto.get] at h
  cases hb:Nat.beq y q with
  |true=>exact(Nat.eq_of_beq_eq_true hb).symm
  |false=>simp[hb] at h
 obtain⟨v,u,rfl⟩:∃v u,vs = #[v,u]:=by
  match vs,hl with
  |⟨[v,u]⟩,_=>exact⟨v,u,rfl⟩
 have hu:Rd I w (.fn g) u:=hre 1 _ u rfl rfl
 have hu:u = .func (.func g) #[] #[]:=by cases hu;rfl
 subst hu
 have hv:=hre 0 _ v rfl rfl
 obtain⟨hrb,hbk⟩:=hso.1 y (.pure (pre++xs.flatten++post)) (by simp only[Sto.get,Nat.beq_refl,cond_true])
 have hrb:RB β (dom [(y,SC.pure (pre++xs.flatten++post))]) I w y ((pre++xs.flatten++post).map EV.pv):=hrb
 obtain⟨_,⟨_,he0,_⟩|⟨b,cap,hb,rfl,hcap,_⟩⟩:=hv
 ·omega
 obtain⟨arr,el,hg,hsize,hcs⟩:=pureRB_inv hrb hb
 obtain⟨hbs,hIb⟩:=hbk b hb
 have hrow:∀(i j:Nat) row x,xs[i]? = some row→row[j]? = some x→∃u,arr[pre.length+(i*k+j)]? = some u∧u.oneCell'=true∧Rd I w x u:=fun i j row x hi hj=>by
  refine hcs _ x ?_
  have h1:=flat_get2 hlen hi hj
  rw[List.append_assoc,List.getElem?_append_right (Nat.le_add_right _ _),Nat.add_sub_cancel_left,List.getElem?_append_left (List.getElem?_eq_some_iff.1 h1).1]
  exact h1
 refine(sort_core hS L aE zE hg (fun x hx=>⟨hI x hx,fun e=>hIb (by rw[←e];exact hx)⟩) hrow hlen h0 hk0 hsz hO (g:=g) (ex:=[]) (cb := #[]) rfl (fun j e v he=>by simp at he) hcmp).mono fun e w' hp => ?_
 obtain⟨rfl,m,os,rfl⟩:=hp
 have hheap:=fun (x:Nat) (hx:x<w.heap.size)=>sortW_heap (encA arr pre.length k xs.length) k w b pre.length m (sortIx c xs) os x hx
 have hbh:=hheap b hbs
 rw[if_pos rfl,hg] at hbh
 have hother:∀x,x<w.heap.size→x≠b→(sortWorldK (encA arr pre.length k xs.length) k w b pre.length m (sortIx c xs) os).heap[x]? = w.heap[x]? := fun x hx hne=>by
  rw[hheap x hx,if_neg (fun e=>hne e.symm)]
 have hix:=sortIx_size hO h0
 have hfl:=flat_len (ys:=sortBy c xs) (sortBy_len hO h0 hlen)
 have hfx:=flat_len hlen
 have hbl:(sortBy c xs).length=xs.length:=(sortBy_perm hO h0).length_eq
 rw[hbl] at hfl
 refine⟨.tuple #[],β,rfl,fun _ _ _=>rfl,⟨rfl,rfl,rfl,by rw[sortW_size];exact Nat.le_add_right _ _,fun x hx hM=>hother x hx (fun e=>hM ⟨y,hdy,e ▸ hb⟩),fun x hx => ?_,fun _=>Nat.le_add_right _ _⟩,⟨fun r sc hr => ?_,fun r r' _ h1 h2 _ _=>(hdq r h1).trans (hdq r' h2).symm⟩,.tup _ _ rfl (fun j c u hc=>by simp at hc),fun x q hx hnx=>absurd (by rw[hdq x hx];exact hdy) hnx⟩
 ·by_cases hxb:x=b
  ·subst hxb
   simp only[World.shape?,hbh,hg,Option.map_some,Sort.onCells]
   simp[Sort.putCells]
  ·exact shape_heap (hother x hx hxb)
 ·have hry:r=y:=hdq r (by unfold dom;rw[hr];rfl)
  subst hry
  simp only[Sto.get,Nat.beq_refl,cond_true] at hr
  injection hr with hr;subst hr
  refine⟨.inr ⟨b,_,el,hb,hbh,fun q e he => ?_⟩,fun b' hb' => ?_⟩
  ·have hmono:∀{p:PV} {u:Value},Rd I w p u→RE β (dom [(r,SC.pure (pre++(sortBy c xs).flatten++post))]) (fun b_1=>I b_1∨(fresh w (sortWorldK (encA arr pre.length k xs.length) k w b pre.length m (sortIx c xs) os) b_1∨Gvn [(r,SC.pure (pre++xs.flatten++post))] β b_1)∧∀x,dom [(r,SC.pure (pre++(sortBy c xs).flatten++post))] x→β x≠some b_1) (sortWorldK (encA arr pre.length k xs.length) k w b pre.length m (sortIx c xs) os) (.pv p) u :=
    fun h=>Rd.mono h (fun _ h => .inl h) (fun x o hx=>sortW_cell (hI x hx) (fun e=>hIb (by rw[←e];exact hx)) o)
   unfold SC.evs at he
   rw[List.getElem?_map] at he
   cases hp:(pre++(sortBy c xs).flatten++post)[q]? with
   |none=>rw[hp] at he;cases he
   |some p =>
    rw[hp] at he
    injection he with he;subst he
    unfold Sort.putCells
    rw[Array.getElem?_mapIdx,Sort.size_flatK,hix]
    by_cases h1:q<pre.length
    ·rw[List.append_assoc,List.getElem?_append_left h1] at hp
     obtain⟨u,g1,g2,g3⟩:=hcs q p (by rw[List.append_assoc,List.getElem?_append_left h1];exact hp)
     refine⟨u,?_,g2,hmono g3⟩
     rw[g1,Option.map_some,if_neg (by omega)]
    ·by_cases h2:q<pre.length+xs.length*k
     ·obtain⟨t,rfl⟩:∃t,q=pre.length+t:=⟨q-pre.length,by omega⟩
      rw[List.append_assoc,List.getElem?_append_right (by omega),Nat.add_sub_cancel_left,List.getElem?_append_left (by omega)] at hp
      obtain⟨row,r1,r2,r3⟩:=flat_inv (sortBy_len hO h0 hlen) hp
      unfold sortBy at r1
      rw[List.getElem?_map] at r1
      cases hz:(sortIx c xs).toList[t/k]? with
      |none=>rw[hz] at r1;cases r1
      |some z =>
       rw[hz] at r1
       injection r1 with r1
       have hzl:z<xs.length:=sortIx_lt hO h0 (List.mem_of_getElem? hz)
       have hzr:=getD_row (d:=[]) hzl
       have r1:xs.getD z []=row:=r1
       rw[r1] at hzr
       obtain⟨u,g1,g2,g3⟩:=hrow _ _ _ _ hzr r2
       refine⟨u,?_,g2,hmono g3⟩
       have hts:pre.length+t<arr.size:=by
        have:(pre++xs.flatten++post).length≤arr.size:=hsize
        simp only[List.length_append,hfx] at this
        omega
       rw[Array.getElem?_eq_getElem hts,Option.map_some,if_pos ⟨by omega,by omega⟩,Nat.add_sub_cancel_left]
       rw[Sort.get_flatK _ _ _ _ (by rw[hix];omega)]
       have e1:(sortIx c xs)[t/k]! = z:=by
        have:(sortIx c xs)[t/k]? = some z:=by simpa using hz
        rw[getElem!_def,this]
       rw[e1]
       have e2:=encA_get (arr:=arr) (off:=pre.length) (n:=xs.length) (x:=z) (Nat.mod_lt t hk0)
       rw[clN_id hzl,Array.getD_eq_getD_getElem?,g1] at e2
       rw[List.getElem!_eq_getElem?_getD,e2]
       rfl
     ·obtain⟨u,g1,g2,g3⟩:=hcs q p (by
       rw[List.getElem?_append_right (by rw[List.length_append,hfx];omega),List.length_append,hfx]
       rw[List.getElem?_append_right (by rw[List.length_append,hfl];omega),List.length_append,hfl] at hp
       exact hp)
      refine⟨u,?_,g2,hmono g3⟩
      rw[g1,Option.map_some,if_neg (by omega)]
  ·rw[hb] at hb';injection hb' with hb';subst hb'
   refine⟨by rw[sortW_size];omega,fun h => ?_⟩
   rcases h with h|⟨_,h⟩
   ·exact hIb h
   ·exact h r (by simp[dom,Sto.get]) hb
end
end Go.Proofs.YtegpfcmnjhmhjaaGreat.Sym
namespace Go.Proofs.YtegpfcmnjhmhjaaGreat.Sym.Lay
open Go Go.Shelf Go.Proofs
set_option maxRecDepth 20000
def sortRat_ren:Ren:=⟨fun n=>match n with|6=>33|14=>79|15=>80|20=>114|21=>115|22=>116|23=>117|24=>118|25=>119|26=>120|27=>121|28=>122|29=>123|46=>148|47=>149|48=>150|49=>151|50=>152|57=>156|n=>n,
 fun n=>match n with|0=>0|3=>3|4=>4|5=>5|9=>9|22=>22|24=>28|25=>67|39=>106|45=>127|46=>128|50=>132|53=>112|55=>136|66=>149|70=>153|76=>155|77=>156|n=>n,
 fun n=>n⟩
theorem sortRat : SlLaysF0.n6 Tryz.prog sortRat_ren where
  mixed := by kernel_rfl
  f6 := ⟨ "slices.SortFunc[[]linkwork/api.Rat,linkwork/api.Rat]", by decide, Tryz.func33.trans (congrArg some (by kernel_rfl))⟩
  f14 := ⟨ "slices.pdqsortCmpFunc[linkwork/api.Rat]", by decide, Tryz.func79.trans (congrArg some (by kernel_rfl))⟩
  f15 := Tryz.func80.trans (congrArg some (by kernel_rfl))
  f20 := ⟨ "slices.insertionSortCmpFunc[linkwork/api.Rat]", by decide, Tryz.func114.trans (congrArg some (by kernel_rfl))⟩
  f21 := ⟨ "slices.heapSortCmpFunc[linkwork/api.Rat]", by decide, Tryz.func115.trans (congrArg some (by kernel_rfl))⟩
  f22 := ⟨ "slices.breakPatternsCmpFunc[linkwork/api.Rat]", by decide, Tryz.func116.trans (congrArg some (by kernel_rfl))⟩
  f23 := ⟨ "slices.choosePivotCmpFunc[linkwork/api.Rat]", by decide, Tryz.func117.trans (congrArg some (by kernel_rfl))⟩
  f24 := ⟨ "slices.reverseRangeCmpFunc[linkwork/api.Rat]", by decide, Tryz.func118.trans (congrArg some (by kernel_rfl))⟩
  f25 := ⟨ "slices.partialInsertionSortCmpFunc[linkwork/api.Rat]", by decide, Tryz.func119.trans (congrArg some (by kernel_rfl))⟩
  f26 := ⟨ "slices.partitionEqualCmpFunc[linkwork/api.Rat]", by decide, Tryz.func120.trans (congrArg some (by kernel_rfl))⟩
  f27 := ⟨ "slices.partitionCmpFunc[linkwork/api.Rat]", by decide, Tryz.func121.trans (congrArg some (by kernel_rfl))⟩
  f28 := Tryz.func122.trans (congrArg some (by kernel_rfl))
  f29 := Tryz.func123.trans (congrArg some (by kernel_rfl))
  f46 := ⟨ "slices.siftDownCmpFunc[linkwork/api.Rat]", by decide, Tryz.func148.trans (congrArg some (by kernel_rfl))⟩
  f47 := Tryz.func149.trans (congrArg some (by kernel_rfl))
  f48 := Tryz.func150.trans (congrArg some (by kernel_rfl))
  f49 := ⟨ "slices.medianAdjacentCmpFunc[linkwork/api.Rat]", by decide, Tryz.func151.trans (congrArg some (by kernel_rfl))⟩
  f50 := ⟨ "slices.medianCmpFunc[linkwork/api.Rat]", by decide, Tryz.func152.trans (congrArg some (by kernel_rfl))⟩
  f57 := ⟨ "slices.order2CmpFunc[linkwork/api.Rat]", by decide, Tryz.func156.trans (congrArg some (by kernel_rfl))⟩
  t0 := Tryz.underlying0
  a0 := Tryz.isAgg0
  z0 := Tryz.sizeOf0
  v0 := Tryz.zeroValue0
  t3 := Tryz.underlying3
  a3 := Tryz.isAgg3
  z3 := Tryz.sizeOf3
  v3 := Tryz.zeroValue3
  t4 := Tryz.underlying4
  a4 := Tryz.isAgg4
  z4 := Tryz.sizeOf4
  v4 := Tryz.zeroValue4
  t5 := Tryz.underlying5
  a5 := Tryz.isAgg5
  z5 := Tryz.sizeOf5
  v5 := Tryz.zeroValue5
  t9 := Tryz.underlying9
  a9 := Tryz.isAgg9
  z9 := Tryz.sizeOf9
  v9 := Tryz.zeroValue9
  t22 := Tryz.underlying22
  a22 := Tryz.isAgg22
  z22 := Tryz.sizeOf22
  v22 := Tryz.zeroValue22
  t25 := Tryz.underlying67
  a25 := Tryz.isAgg67
  z25 := Tryz.sizeOf67
  v25 := Tryz.zeroValue67
  t39 := Tryz.underlying106
  a39 := Tryz.isAgg106
  z39 := Tryz.sizeOf106
  v39 := Tryz.zeroValue106
  t45 := Tryz.underlying127
  a45 := Tryz.isAgg127
  z45 := Tryz.sizeOf127
  v45 := Tryz.zeroValue127
  t46 := Tryz.underlying128
  a46 := Tryz.isAgg128
  z46 := Tryz.sizeOf128
  v46 := Tryz.zeroValue128
  t50 := Tryz.underlying132
  a50 := Tryz.isAgg132
  z50 := Tryz.sizeOf132
  v50 := Tryz.zeroValue132
  t53 := Tryz.underlying112
  a53 := Tryz.isAgg112
  z53 := Tryz.sizeOf112
  v53 := Tryz.zeroValue112
  t55 := Tryz.underlying136
  a55 := Tryz.isAgg136
  z55 := Tryz.sizeOf136
  v55 := Tryz.zeroValue136
  t66 := Tryz.underlying149
  a66 := Tryz.isAgg149
  z66 := Tryz.sizeOf149
  v66 := Tryz.zeroValue149
  t70 := Tryz.underlying153
  a70 := Tryz.isAgg153
  z70 := Tryz.sizeOf153
  v70 := Tryz.zeroValue153
  t76 := Tryz.underlying155
  a76 := Tryz.isAgg155
  z76 := Tryz.sizeOf155
  v76 := Tryz.zeroValue155
  t77 := Tryz.underlying156
  a77 := Tryz.isAgg156
  z77 := Tryz.sizeOf156
  v77 := Tryz.zeroValue156
end Go.Proofs.YtegpfcmnjhmhjaaGreat.Sym.Lay


namespace Go.Proofs.YtegpfcmnjhmhjaaGreat.Sym
open Go Path CInt
set_option linter.unusedVariables false
def brkW(l:ALaw)(i:Nat):Rat:=match l.breaks[i]? with
 |some b=>b.val
 |none=>0
def pcW(l:ALaw)(i:Nat):List Rat:=match l.pieces[i]? with
 |some p=>vals p
 |none=>[]
def lenW(l:ALaw)(i:Nat):Rat:=endW l i-brkW l i
theorem brkW_of{l:ALaw}{i:Nat}{b:ARat}(h:l.breaks[i]? = some b):brkW l i=b.val:=by unfold brkW;rw[h]
theorem pcW_of{l:ALaw}{i:Nat}{p:List ARat}(h:l.pieces[i]? = some p):pcW l i=vals p:=by unfold pcW;rw[h]
theorem ht_endW{l:ALaw}{k:Nat}(hf:FitW k l)(hk:1≤k)(i:Nat):ht (endW l i)≤k:=by
 unfold endW
 cases h:l.breaks[i+1]? with
 |some v=>have hv:=hf.1 v (List.mem_of_getElem? h);exact ht_fit hv.1 hv.2 hk
 |none=>exact Nat.le_trans (show ht ((1:Int):Rat)≤1 from by decide) hk
theorem ht_brkW{l:ALaw}{k:Nat}(hf:FitW k l)(hk:1≤k)(i:Nat):ht (brkW l i)≤k:=by
 unfold brkW
 cases h:l.breaks[i]? with
 |some v=>have hv:=hf.1 v (List.mem_of_getElem? h);exact ht_fit hv.1 hv.2 hk
 |none=>exact Nat.le_trans (Nat.le_of_eq ht_zero) hk
theorem ht_lenW{l:ALaw}{k:Nat}(hf:FitW k l)(hk:1≤k)(i:Nat):ht (lenW l i)≤2*k+1:=by
 have h1:=ht_endW hf hk i
 have h2:=ht_brkW hf hk i
 have h3:=ht_sub (endW l i) (brkW l i)
 unfold lenW;omega
theorem fl_pcW{l:ALaw}{k:Nat}(hf:FitW k l)(hk:1≤k)(i:Nat):Fl k (pcW l i):=by
 unfold pcW
 cases h:l.pieces[i]? with
 |some p=>exact fl_vals (hf.2 p (List.mem_of_getElem? h)) hk
 |none=>exact fun x hx=>by cases hx
theorem Good.at{l:ALaw}(g:Good l){t:Nat}(h:t<l.pieces.length):∃b p,l.breaks[t]? = some b∧l.pieces[t]? = some p∧b=mkR (brkW l t)∧p=(pcW l t).map mkR∧chk p=0∧p.length≤9:=by
 have hlen:=g.len
 obtain⟨b,hb⟩:∃b,l.breaks[t]? = some b:=⟨_,List.getElem?_eq_getElem (by omega)⟩
 obtain⟨p,hp⟩:∃p,l.pieces[t]? = some p:=⟨_,List.getElem?_eq_getElem h⟩
 obtain⟨h1,h2⟩:=g.ps p (List.mem_of_getElem? hp)
 refine⟨b,p,hb,hp,?_,?_,h1,h2⟩
 ·rw[brkW_of hb,mkR_of (List.all_eq_true.1 g.valid b (List.mem_of_getElem? hb))]
 ·rw[pcW_of hp,vals_of (chk_valid h1)]
theorem pcW_len{l:ALaw}(g:Good l)(t:Nat):(pcW l t).length≤9:=by
 unfold pcW
 cases h:l.pieces[t]? with
 |some p=>have:=(g.ps p (List.mem_of_getElem? h)).2;unfold vals;rw[List.length_map];exact this
 |none=>simp
def joinB(l:ALaw)(t:Nat):Bool:=decide (evalL (pcW l t) (lenW l t)=evalL (pcW l ((t+1)%l.pieces.length)) 0)
def joinsF(l:ALaw):Nat→Nat→Bool
 |0,_=>true
 |j+1,t=>bif joinB l t then joinsF l j (t+1) else false
def joinsW(l:ALaw):Bool:=joinsF l l.pieces.length 0
def smoothF:Nat→ALaw→Bool
 |0,_=>true
 |j+1,l=>bif joinsW l then smoothF j (deriveW l) else false
theorem ht_evalW{l:ALaw}(g:Good l)(hf:FitW 1048576 l)(i:Nat){x:Rat}(hx:ht x≤2097153):ht (evalL (pcW l i) x)≤68719476736:=by
 have h1:=ht_eval (pcW l i) x 2097153 (fun y hy=>Nat.le_trans (fl_pcW hf (by omega) i y hy) (by omega)) hx
 have h2:(pcW l i).length*(2*2097153+1)≤9*(2*2097153+1):=Nat.mul_le_mul_right _ (pcW_len g i)
 omega
theorem asc_get{q:List Rat}(h:q.Pairwise (·<·)){i j:Nat}{x y:Rat}(hi:q[i]? = some x)(hj:q[j]? = some y)(hij:i<j):x<y:=by
 obtain⟨a1,a2⟩:=List.getElem?_eq_some_iff.1 hi
 obtain⟨b1,b2⟩:=List.getElem?_eq_some_iff.1 hj
 have:=List.pairwise_iff_getElem.1 h i j a1 b1 hij
 rwa[a2,b2] at this
theorem endW_gt{l:ALaw}(g:Good l){t:Nat}(h:t<l.breaks.length):brkW l t<endW l t:=by
 obtain⟨b,hb⟩:∃b,l.breaks[t]? = some b:=⟨_,List.getElem?_eq_getElem h⟩
 rw[brkW_of hb]
 unfold endW
 cases h2:l.breaks[t+1]? with
 |none=>have:=(g.unit b (List.mem_of_getElem? hb)).2;show b.val<((1:Int):Rat);exact this
 |some c =>
  have hv1:(vals l.breaks)[t]? = some b.val:=by unfold vals;rw[List.getElem?_map,hb];rfl
  have hv2:(vals l.breaks)[t+1]? = some c.val:=by unfold vals;rw[List.getElem?_map,h2];rfl
  exact asc_get g.asc hv1 hv2 (Nat.lt_succ_self t)
theorem lenW_pos{l:ALaw}(g:Good l){t:Nat}(h:t<l.breaks.length):0<lenW l t:=by
 have:=endW_gt g h
 unfold lenW;grind
namespace CLw
theorem length(l:ALaw)(g:Good l)(hf:FitW 1048576 l){t:Nat}(h:t<l.pieces.length):Contract prg 110 [l.pv,vI (t:Int)] (mkR (lenW l t)).pv:=by
 obtain⟨b,p,hb,hp,eb,ep,hc,h9⟩:=g.at h
 have hlen:=g.len
 have hle:=g.le
 have h1:=ht_endW hf (by omega) t
 have h2:=ht_brkW hf (by omega) t
 rw[eb] at hb
 exact law_length.e0 l t _ t _ _ (end' l t (by omega) (by omega) g.valid) rfl hb (QF.Sub _ _ (by omega) (by omega))
theorem evalQ{l:ALaw}(g:Good l)(hf:FitW 1048576 l){t:Nat}(h:t<l.pieces.length)(x:Rat)(hx:ht x≤2097153):Contract prg 57 [polyPV ((pcW l t).map mkR),(mkR x).pv] (.tup [(mkR (evalL (pcW l t) x)).pv,.nilI]):=by
 obtain⟨b,p,hb,hp,eb,ep,hc,h9⟩:=g.at h
 have hpf:=hf.2 p (List.mem_of_getElem? hp)
 have:=CPo.Eval p (mkR x) hc (fun a ha=>⟨by have:=(hpf a ha).1;omega,by have:=(hpf a ha).2;omega⟩) (by have h1:=fit_mkRk hx;exact⟨by omega,by omega⟩)
 rwa[mkR_val,ep,vals_mkR] at this
theorem joins(l:ALaw)(g:Good l)(hf:FitW 1048576 l):Contract prg 63 [l.pv] (.tup [vB (joinsW l),.nilI]):=by
 have hlen:=g.len
 have hle:=g.le
 have hn0:=g.n0
 have loop:∀(j t:Nat),l.pieces.length-t=j→law_joins.Loop1 l t (.tup [vB (joinsF l j t),.nilI]):=by
  intro j
  induction j with
  |zero=>intro t hj;exact law_joins.l14 l t (by omega)
  |succ j ih =>
   intro t hj
   have ht:t<l.pieces.length:=by omega
   have hm:(t+1)%l.pieces.length<l.pieces.length:=Nat.mod_lt _ (by omega)
   obtain⟨b,p,hb,hp,eb,ep,hc,h9⟩:=g.at ht
   obtain⟨b',p',hb',hp',eb',ep',hc',h9'⟩:=g.at hm
   have e1:=evalQ g hf ht (lenW l t) (Nat.le_trans (ht_lenW hf (by omega) t) (by omega))
   have e2:=evalQ g hf hm 0 (by decide)
   have c:=QF.Cmp _ _ (ht_evalW g hf t (Nat.le_trans (ht_lenW hf (by omega) t) (by omega))) (ht_evalW g hf ((t+1)%l.pieces.length) (x:=0) (by decide))
   rw[ep] at hp
   rw[ep'] at hp'
   rw[joinsF]
   by_cases h:evalL (pcW l t) (lenW l t)=evalL (pcW l ((t+1)%l.pieces.length)) 0
   ·rw[show joinB l t=true from decide_eq_true h,cond_true]
    exact law_joins.l11 l t _ _ _ _ _ _ ht hp (length l g hf ht) e1 (by omega) (by omega) hp' e2 c (cmpR_eq.2 h) (ih (t+1) (by omega))
   ·rw[show joinB l t=false from decide_eq_false h,cond_false]
    exact law_joins.l10 l t _ _ _ _ _ _ ht hp (length l g hf ht) e1 (by omega) (by omega) hp' e2 c (fun e=>h (cmpR_eq.1 e))
 exact law_joins.e0 l (loop _ 0 rfl)
theorem Smooth(l:ALaw)(k:Nat)(hc:chkLaw l=0)(hf:FitW 1000000 l)(hk:k≤8):Contract prg 21 [l.pv,vI (k:Int)] (.tup [vB (smoothF (k+1) l),.nilI]):=by
 have hck:=Check l ⟨fun a ha=>⟨by have:=(hf.1 a ha).1;omega,by have:=(hf.1 a ha).2;omega⟩,fun p hp a ha=>⟨by have:=(hf.2 p hp a ha).1;omega,by have:=(hf.2 p hp a ha).2;omega⟩⟩
 rw[hc] at hck
 have loop:∀(j t:Nat) (s:ALaw),k+1-t=j→t≤k+1→chkLaw s=0→FitW (1000000+2*t) s→law_Smooth.Loop1 k t s (.tup [vB (smoothF j s),.nilI]):=by
  intro j
  induction j with
  |zero=>intro t s hj _ _ _;exact law_Smooth.l14 k t s (by omega)
  |succ j ih =>
   intro t s hj ht hs hfs
   have g:=good_of hs
   have hf1:FitW 1048576 s:=⟨fun a ha=>⟨by have:=(hfs.1 a ha).1;omega,by have:=(hfs.1 a ha).2;omega⟩,fun p hp a ha=>⟨by have:=(hfs.2 p hp a ha).1;omega,by have:=(hfs.2 p hp a ha).2;omega⟩⟩
   have hj':=joins s g hf1
   rw[smoothF]
   cases hb:joinsW s with
   |false=>exact law_Smooth.l10 k t s _ (by omega) hj' hb
   |true =>
    have hd:=Derive s hs ⟨fun a ha=>⟨by have:=(hfs.1 a ha).1;omega,by have:=(hfs.1 a ha).2;omega⟩,fun p hp a ha=>⟨by have:=(hfs.2 p hp a ha).1;omega,by have:=(hfs.2 p hp a ha).2;omega⟩⟩
    exact law_Smooth.l11 k t s _ _ (by omega) hj' hb hd (by omega) (ih (t+1) _ (by omega) (by omega) (chk_derive hs) (by have:=fitW_derive g (by omega) hfs;rwa[show 1000000+2*t+2=1000000+2*(t+1) from by omega] at this))
 exact law_Smooth.e2 l k hck (by omega) (by omega) (by unfold InI64;omega) (loop _ 0 l rfl (by omega) hc hf)
end CLw
end Go.Proofs.YtegpfcmnjhmhjaaGreat.Sym

namespace Go.Proofs.YtegpfcmnjhmhjaaGreat.Sym
open Go Path CInt
set_option linter.unusedVariables false
theorem frac_lt(x:Rat):frac x<1:=by
 have:=Rat.lt_floor_add_one x
 have e:((x.floor+1:Int):Rat)=(x.floor:Rat)+1:=by simp
 unfold frac
 grind
theorem frac_ge(x:Rat):0≤frac x:=by
 have:=Rat.floor_le (a:=x)
 unfold frac
 grind
theorem floor_eq{x:Rat}{n:Int}(h1:(n:Rat)≤x)(h2:x<(n:Rat)+1):x.floor=n:=by
 have a:=Rat.le_floor_iff.2 h1
 have b:x.floor<n+1:=by
  have:=Rat.floor_lt_iff (a:=x) (x:=n+1)
  rw[this]
  have:((n+1:Int):Rat)=(n:Rat)+1:=by simp
  rw[this];exact h2
 omega
theorem frac_add(x:Rat)(n:Int):frac (x+n)=frac x:=by
 unfold frac
 rw[Rat.floor_add_intCast]
 have:((x.floor+n:Int):Rat)=(x.floor:Rat)+n:=by simp
 grind
theorem frac_id {x : Rat} (h1 : 0 ≤ x) (h2 : x < 1) : frac x = x := by
  have e : x.floor = 0 := floor_eq (by exact h1) (by have : (((0 : Int) : Rat)) = 0 := rfl
                                                     grind)
  unfold frac
  rw [e]
  have : (((0 : Int) : Rat)) = 0 := rfl
  grind
theorem piece_spec{l:ALaw}(g:Good l){y:Rat}(h0:0≤y)(h1:y<1):pieceL (vals l.breaks) y<l.breaks.length∧brkW l (pieceL (vals l.breaks) y)≤y∧y<endW l (pieceL (vals l.breaks) y):=by
 have hl:(vals l.breaks).length=l.breaks.length:=List.length_map ..
 have hn0:=g.n0
 have hlt:=pieceL_lt (bs:=vals l.breaks) (by omega) y
 have key:∀(r:List Rat) (i:Nat),pieceF r y=i→(∀j b,j<i→r[j]? = some b→b≤y)∧(∀b,r[i]? = some b→y<b):=by
  intro r
  induction r with
  |nil=>intro i hi;exact⟨fun j b _ h=>by simp at h,fun b h=>by simp at h⟩
  |cons a r ih =>
   intro i hi
   rw[pieceF] at hi
   by_cases ha:a≤y
   ·rw[decide_eq_true ha,cond_true] at hi
    subst hi
    obtain⟨k1,k2⟩:=ih _ rfl
    refine⟨fun j b hj h => ?_,fun b h=>k2 b (by simpa using h)⟩
    cases j with
    |zero=>simp at h;rw[←h];exact ha
    |succ j=>exact k1 j b (by omega) (by simpa using h)
   ·rw[decide_eq_false ha,cond_false] at hi
    subst hi
    exact⟨fun j b hj=>by omega,fun b h=>by simp at h;rw[←h];grind⟩
 obtain⟨k1,k2⟩:=key ((vals l.breaks).drop 1) _ rfl
 have k1:∀j b,j<pieceL (vals l.breaks) y→((vals l.breaks).drop 1)[j]? = some b→b≤y:=k1
 have k2:∀b,((vals l.breaks).drop 1)[pieceL (vals l.breaks) y]? = some b→y<b:=k2
 generalize pieceL (vals l.breaks) y=i at hlt k1 k2 ⊢
 refine⟨by omega,?_,?_⟩
 ·cases i with
  |zero =>
   obtain⟨b,hb⟩:∃b,l.breaks[0]? = some b:=⟨_,List.getElem?_eq_getElem (by omega)⟩
   rw[brkW_of hb,g.first b hb];exact h0
  |succ i =>
   obtain⟨b,hb⟩:∃b,l.breaks[i+1]? = some b:=⟨_,List.getElem?_eq_getElem (by omega)⟩
   rw[brkW_of hb]
   refine k1 i b.val (by omega) ?_
   rw[List.getElem?_drop,Nat.add_comm]
   unfold vals;rw[List.getElem?_map,hb];rfl
 ·unfold endW
  cases hb:l.breaks[i+1]? with
  |none=>show y<((1:Int):Rat);exact h1
  |some b =>
   refine k2 b.val ?_
   rw[List.getElem?_drop,Nat.add_comm]
   unfold vals;rw[List.getElem?_map,hb];rfl
theorem endW_next{l:ALaw}{t:Nat}(h:t+1<l.breaks.length):endW l t=brkW l (t+1):=by
 obtain⟨b,hb⟩:∃b,l.breaks[t+1]? = some b:=⟨_,List.getElem?_eq_getElem h⟩
 unfold endW
 rw[hb,brkW_of hb]
theorem endW_le1{l:ALaw}(g:Good l)(t:Nat):endW l t≤1:=by
 unfold endW
 cases hb:l.breaks[t+1]? with
 |none=>exact Rat.le_refl
 |some b=>exact Rat.le_of_lt (g.unit b (List.mem_of_getElem? hb)).2
theorem brkW_ge0{l:ALaw}(g:Good l)(t:Nat):0≤brkW l t:=by
 unfold brkW
 cases hb:l.breaks[t]? with
 |none=>exact Rat.le_refl
 |some b=>exact(g.unit b (List.mem_of_getElem? hb)).1
theorem brk_mono{l:ALaw}(g:Good l){i j:Nat}(hj:j<l.breaks.length)(hij:i<j):brkW l i<brkW l j:=by
 obtain⟨b,hb⟩:∃b,l.breaks[i]? = some b:=⟨_,List.getElem?_eq_getElem (by omega)⟩
 obtain⟨c,hc⟩:∃c,l.breaks[j]? = some c:=⟨_,List.getElem?_eq_getElem hj⟩
 rw[brkW_of hb,brkW_of hc]
 exact asc_get g.asc (by unfold vals;rw[List.getElem?_map,hb];rfl) (by unfold vals;rw[List.getElem?_map,hc];rfl) hij
theorem piece_uniq{l:ALaw}(g:Good l){y:Rat}{t:Nat}(ht:t<l.breaks.length)(h1:brkW l t≤y)(h2:y<endW l t):pieceL (vals l.breaks) y=t:=by
 have h0:=brkW_ge0 g t
 have h3:=endW_le1 g t
 obtain⟨s1,s2,s3⟩:=piece_spec g (y:=y) (by grind) (by grind)
 generalize pieceL (vals l.breaks) y=i at s1 s2 s3 ⊢
 rcases Nat.lt_trichotomy i t with h|h|h
 ·have:endW l i=brkW l (i+1):=endW_next (by omega)
  by_cases e:i+1=t
  ·rw[e] at this;grind
  ·have:=brk_mono g (i:=i+1) ht (by omega);grind
 ·exact h
 ·have:endW l t=brkW l (t+1):=endW_next (by omega)
  by_cases e:t+1=i
  ·rw[e] at this;grind
  ·have:=brk_mono g (i:=t+1) s1 (by omega);grind
theorem atW_eq{l:ALaw}(x:Rat):atW l x=evalL (pcW l (pieceL (vals l.breaks) (frac x))) (frac x-brkW l (pieceL (vals l.breaks) (frac x))):=by
 unfold atW pcW brkW
 rw[List.getD_eq_getElem?_getD,List.getD_eq_getElem?_getD]
 cases l.pieces[pieceL (vals l.breaks) (frac x)]? <;> cases l.breaks[pieceL (vals l.breaks) (frac x)]? <;> rfl
theorem atW_frac(l:ALaw){x y:Rat}(h:frac x=frac y):atW l x=atW l y:=by unfold atW;rw[h]
theorem deriveW_pc(l:ALaw)(i:Nat):pcW (deriveW l) i=deriveL (pcW l i):=by
 unfold pcW deriveW
 show(match (l.pieces.map (fun p=>(deriveL (vals p)).map mkR))[i]? with|some p=>vals p|none=>[])=_
 rw[List.getElem?_map]
 cases l.pieces[i]? with
 |none=>rfl
 |some p=>exact vals_mkR _
theorem deriveW_br(l:ALaw):vals (deriveW l).breaks=vals l.breaks:=vals_mkR _
end Go.Proofs.YtegpfcmnjhmhjaaGreat.Sym
namespace Go.Proofs.YtegpfcmnjhmhjaaGreat.Sym
open Go Path CInt
set_option linter.unusedVariables false
def coef(p:List Rat)(i:Nat):Rat:=p[i]?.getD 0
def addL:List Rat→List Rat→List Rat
 |[],q=>q
 |a::p,[]=>a::p
 |a::p,b::q=>(a+b)::addL p q
def smulL(c:Rat)(q:List Rat):List Rat:=q.map (fun x=>c*x)
def mulL:List Rat→List Rat→List Rat
 |[],_=>[]
 |a::p,q=>addL (smulL a q) (0::mulL p q)
def shiftL(s:Nat)(q:List Rat):List Rat:=List.replicate s 0++q
def compL:List Rat→List Rat→List Rat
 |[],_=>[]
 |a::r,q=>addL (mulL (compL r q) q) [a]
theorem coef_nil(i:Nat):coef [] i=0:=rfl
theorem coef_zero(a:Rat)(p:List Rat):coef (a::p) 0=a:=rfl
theorem coef_succ(a:Rat)(p:List Rat)(i:Nat):coef (a::p) (i+1)=coef p i:=rfl
theorem coef_of{p:List Rat}{i:Nat}{v:Rat}(h:p[i]? = some v):coef p i=v:=by unfold coef;rw[h];rfl
theorem coef_ge{p:List Rat}{i:Nat}(h:p.length≤i):coef p i=0:=by unfold coef;rw[List.getElem?_eq_none h];rfl
theorem coef_get{p:List Rat}{i:Nat}(h:i<p.length):p[i]? = some (coef p i):=by unfold coef;rw[List.getElem?_eq_getElem h];rfl
theorem coef_addL:∀(p q:List Rat) (i:Nat),coef (addL p q) i=coef p i+coef q i
 |[],q,i=>by rw[addL,coef_nil,Rat.zero_add]
 |a::p,[],i=>by rw[addL,coef_nil,Rat.add_zero]
 |a::p,b::q,0=>rfl
 |a::p,b::q,i+1=>by rw[addL,coef_succ,coef_succ,coef_succ,coef_addL p q i]
theorem coef_smulL(c:Rat)(q:List Rat)(i:Nat):coef (smulL c q) i=c*coef q i:=by
 unfold coef smulL
 rw[List.getElem?_map]
 cases q[i]? with
 |none=>show(0:Rat)=c*0;rw[Rat.mul_zero]
 |some v=>rfl
theorem coef_mul_cons(a:Rat)(p q:List Rat)(i:Nat):coef (mulL (a::p) q) i=a*coef q i+coef (0::mulL p q) i:=by rw[mulL,coef_addL,coef_smulL]
theorem coef_shiftL(s:Nat)(q:List Rat)(i:Nat):coef (shiftL s q) i=if i<s then 0 else coef q (i-s):=by
 unfold coef shiftL
 split
 ·rename_i h
  rw[List.getElem?_append_left (by rw[List.length_replicate];exact h),List.getElem?_replicate,if_pos h];rfl
 ·rename_i h
  rw[List.getElem?_append_right (by rw[List.length_replicate];omega),List.length_replicate]
theorem len_addL:∀(p q:List Rat),(addL p q).length=max p.length q.length
 |[],q=>by rw[addL,List.length_nil,Nat.zero_max]
 |a::p,[]=>by rw[addL,List.length_nil,Nat.max_zero]
 |a::p,b::q=>by rw[addL,List.length_cons,List.length_cons,List.length_cons,len_addL p q];omega
theorem len_smulL(c:Rat)(q:List Rat):(smulL c q).length=q.length:=List.length_map ..
theorem len_mulL:∀(p q:List Rat),(mulL p q).length≤p.length+q.length
 |[],q=>by simp[mulL]
 |a::p,q=>by
  have:=len_mulL p q
  rw[mulL,len_addL,len_smulL,List.length_cons,List.length_cons]
  omega
theorem trimL_ext:∀{p q:List Rat},(∀i,coef p i=coef q i)→trimL p=trimL q
 |[],[],_=>rfl
 |[],b::q,h=>by
  have h0:(0:Rat)=b:=h 0
  have:=trimL_ext (p:=[]) (q:=q) (fun i=>h (i+1))
  rw[trimL_cons,←this,←h0];rfl
 |a::p,[],h=>by
  have h0:a=(0:Rat):=h 0
  have:=trimL_ext (p:=p) (q:=[]) (fun i=>h (i+1))
  rw[trimL_cons,this,h0];rfl
 |a::p,b::q,h=>by
  have h0:a=b:=h 0
  rw[trimL_cons,trimL_cons,trimL_ext (p:=p) (q:=q) (fun i=>h (i+1)),h0]
theorem coef_trimL:∀(p:List Rat) (i:Nat),coef (trimL p) i=coef p i
 |[],_=>rfl
 |a::r,i=>by
  rcases trimL_cases a r with ⟨h1,h2,e⟩|e
  ·rw[e]
   cases i with
   |zero=>exact h2.symm
   |succ i=>rw[coef_succ,←coef_trimL r i,h1,coef_nil,coef_nil]
  ·rw[e]
   cases i with
   |zero=>rfl
   |succ i=>rw[coef_succ,coef_succ,coef_trimL r i]
theorem evalL_addL(x:Rat):∀(p q:List Rat),evalL (addL p q) x=evalL p x+evalL q x
 |[],q=>by rw[addL,evalL,Rat.zero_add]
 |a::p,[]=>by rw[addL,show evalL [] x=0 from rfl,Rat.add_zero]
 |a::p,b::q=>by rw[addL,evalL,evalL,evalL,evalL_addL x p q];grind
theorem evalL_smulL(c x:Rat):∀(q:List Rat),evalL (smulL c q) x=c*evalL q x
 |[]=>by show(0:Rat)=c*0;rw[Rat.mul_zero]
 |a::q=>by
  have:=evalL_smulL c x q
  show evalL (smulL c q) x*x+c*a=c*(evalL q x*x+a)
  rw[this];grind
theorem evalL_mulL(x:Rat):∀(p q:List Rat),evalL (mulL p q) x=evalL p x*evalL q x
 |[],q=>by show(0:Rat)=0*_;rw[Rat.zero_mul]
 |a::p,q=>by
  rw[mulL,evalL_addL,evalL_smulL,evalL,evalL_mulL x p q,evalL];grind
theorem evalL_shiftL(x:Rat):∀(s:Nat) (q:List Rat),evalL (shiftL s q) x=x^s*evalL q x
 |0,q=>by show evalL q x=_;rw[Rat.pow_zero,Rat.one_mul]
 |s+1,q=>by
  have:=evalL_shiftL x s q
  show evalL (shiftL s q) x*x+0=_
  rw[this,Rat.pow_succ];grind
theorem evalL_compL(x:Rat)(q:List Rat):∀(p:List Rat),evalL (compL p q) x=evalL p (evalL q x)
 |[]=>rfl
 |a::p=>by
  rw[compL,evalL_addL,evalL_mulL,evalL_compL x q p,evalL]
  show evalL p (evalL q x)*evalL q x+(0*x+a)=evalL p (evalL q x)*evalL q x+a
  grind
def quoL(c:Rat):List Rat→List Rat
 |[]=>[]
 |[_]=>[]
 |_::b::r=>evalL (b::r) c::quoL c (b::r)
theorem quoL_len(c:Rat):∀p:List Rat,(quoL c p).length=p.length-1
 |[]=>rfl
 |[_]=>rfl
 |_::b::r=>by rw[quoL,List.length_cons,quoL_len c (b::r)];simp
theorem quoL_eval(c x:Rat):∀p:List Rat,evalL p x=evalL p c+(x-c)*evalL (quoL c p) x
 |[]=>by show(0:Rat)=0+(x-c)*0;grind
 |[a]=>by show 0*x+a=(0*c+a)+(x-c)*0;grind
 |a::b::r=>by
  have:=quoL_eval c x (b::r)
  rw[quoL]
  show evalL (b::r) x*x+a=(evalL (b::r) c*c+a)+(x-c)*(evalL (quoL c (b::r)) x*x+evalL (b::r) c)
  rw[this]
  grind
theorem quoL_zero(c:Rat):∀p:List Rat,evalL p c=0→(∀y∈quoL c p,y=0)→∀y∈p,y=0
 |[],_,_=>fun y h=>by cases h
 |[a],h,_=>fun y hy=>by
  have h:0*c+a=0:=h
  rw[List.mem_singleton.1 hy];grind
 |a::b::r,h,hq=>fun y hy=>by
  rw[quoL] at hq
  have h1:=hq _ (List.mem_cons_self ..)
  have ih:=quoL_zero c (b::r) h1 (fun z hz=>hq z (List.mem_cons_of_mem _ hz))
  rcases List.mem_cons.1 hy with e|hy
  ·rw[evalL,h1] at h
   rw[e];grind
  ·exact ih y hy
theorem eval_zero:∀(n:Nat) (p:List Rat) (N:Nat),p.length≤n→(∀m:Nat,N≤m→evalL p ((m:Int):Rat)=0)→∀y∈p,y=0
 |0,p,N,hl,_=>fun y hy=>by
  have:p=[]:=List.eq_nil_of_length_eq_zero (by omega)
  rw[this] at hy;cases hy
 |n+1,p,N,hl,h=>by
  have h0:=h N (Nat.le_refl _)
  refine quoL_zero _ p h0 (eval_zero n _ (N+1) (by rw[quoL_len];omega) (fun m hm => ?_))
  have h1:=h m (by omega)
  rw[quoL_eval ((N:Int):Rat) _ p,h0,Rat.zero_add] at h1
  rcases Rat.mul_eq_zero.1 h1 with e|e
  ·have:((m:Int):Rat)=((N:Int):Rat):=by grind
   have:=Rat.intCast_inj.1 this
   omega
  ·exact e
theorem coef_all{p:List Rat}(h:∀y∈p,y=0)(i:Nat):coef p i=0:=by
 unfold coef
 cases hv:p[i]? with
 |none=>rfl
 |some v=>exact h v (List.mem_of_getElem? hv)
theorem eval_coef{p q:List Rat}(h:∀x,evalL p x=evalL q x)(i:Nat):coef p i=coef q i:=by
 have hz:=eval_zero _ (addL p (smulL (-1) q)) 0 (Nat.le_refl _) (fun m _=>by rw[evalL_addL,evalL_smulL,h];grind)
 have:=coef_all hz i
 rw[coef_addL,coef_smulL] at this
 grind
theorem eval_ext{p q:List Rat}(h:∀x,evalL p x=evalL q x):trimL p=trimL q:=trimL_ext (eval_coef h)
theorem coef_mul_comm(p q:List Rat)(i:Nat):coef (mulL p q) i=coef (mulL q p) i:=eval_coef (fun x=>by rw[evalL_mulL,evalL_mulL,Rat.mul_comm]) i
theorem coef_mul_snoc{p:List Rat}{t:Nat}{v:Rat}(h:p[t]? = some v)(q:List Rat)(i:Nat):coef (mulL (p.take (t+1)) q) i=coef (mulL (p.take t) q) i+coef (shiftL t (smulL v q)) i:=by
 have hl:=(List.getElem?_eq_some_iff.1 h).1
 have key:∀x,evalL (mulL (p.take (t+1)) q) x=evalL (addL (mulL (p.take t) q) (shiftL t (smulL v q))) x:=by
  intro x
  rw[evalL_addL,evalL_mulL,evalL_mulL,evalL_shiftL,evalL_smulL,List.take_add_one,h]
  have:∀(l:List Rat),evalL (l++[v]) x=evalL l x+x^l.length*v:=by
   intro l
   induction l with
   |nil=>show 0*x+v=0+x^0*v;rw[Rat.pow_zero];grind
   |cons a l ih =>
    rw[List.cons_append,evalL,evalL,ih,List.length_cons,Rat.pow_succ];grind
  show evalL (p.take t++[v]) x*_=_
  rw[this,List.length_take,Nat.min_eq_left (by omega)]
  grind
 rw[←coef_addL]
 exact eval_coef key i
theorem ht_mul_coef{k m:Nat} : ∀(p q:List Rat) (i:Nat),(∀i,ht (coef p i)≤k)→(∀i,ht (coef q i)≤m)→ht (coef (mulL p q) i)≤p.length*(k+m+1)+1
 |[],q,i,_,_=>Nat.le_trans (Nat.le_of_eq ht_zero) (by omega)
 |a::p,q,i,hp,hq=>by
  have ih:=fun i=>ht_mul_coef (k:=k) (m:=m) p q i
  have h1:=ht_mul a (coef q i)
  have h2:=hp 0
  rw[coef_zero] at h2
  have h3:=hq i
  rw[coef_mul_cons,List.length_cons,Nat.add_mul]
  have h4:=ht_add (a*coef q i) (coef (0::mulL p q) i)
  have h5:ht (coef (0::mulL p q) i)≤p.length*(k+m+1)+1:=by
   cases i with
   |zero=>rw[coef_zero,ht_zero];omega
   |succ i=>rw[coef_succ];exact ih i (fun j=>hp (j+1)) hq
  omega
theorem fl_coef{k:Nat}{p:List Rat}(h:Fl k p)(hk:1≤k)(i:Nat):ht (coef p i)≤k:=by
 unfold coef
 cases hv:p[i]? with
 |none=>exact Nat.le_trans (Nat.le_of_eq ht_zero) hk
 |some v=>exact h v (List.mem_of_getElem? hv)
theorem fl_of_coef{k:Nat}{p:List Rat}(h:∀i,ht (coef p i)≤k):Fl k p:=by
 intro x hx
 obtain⟨i,hi⟩:=List.mem_iff_getElem?.1 hx
 have:=h i
 rwa[coef_of hi] at this
theorem fl_addL{k m:Nat}{p q:List Rat}(hp:Fl k p)(hq:Fl m q)(hk:1≤k)(hm:1≤m):Fl (k+m+1) (addL p q) :=
 fl_of_coef (fun i=>by
  rw[coef_addL]
  have h1:=ht_add (coef p i) (coef q i)
  have h2:=fl_coef hp hk i
  have h3:=fl_coef hq hm i
  omega)
theorem fl_mono{k m:Nat}{q:List Rat}(h:Fl k q)(hk:k≤m):Fl m q:=fun x hx=>Nat.le_trans (h x hx) hk
def tabL(m:Nat)(g:Nat→Rat):List Rat:=(List.range m).map g
theorem tabL_len(m:Nat)(g:Nat→Rat):(tabL m g).length=m:=by unfold tabL;rw[List.length_map,List.length_range]
theorem tabL_get{m i:Nat}(g:Nat→Rat)(h:i<m):(tabL m g)[i]? = some (g i):=by
 unfold tabL;rw[List.getElem?_map,List.getElem?_range h];rfl
theorem tabL_set{m i:Nat}(g:Nat→Rat)(v:Rat)(h:i<m):(tabL m g).set i v=tabL m (fun j=>if j=i then v else g j):=by
 refine List.ext_getElem? fun j => ?_
 by_cases hj:j<m
 ·rw[tabL_get _ hj]
  by_cases e:j=i
  ·subst e
   rw[List.getElem?_set_self (by rw[tabL_len];exact h),if_pos rfl]
  ·rw[List.getElem?_set_ne (by omega),tabL_get _ hj,if_neg e]
 ·rw[List.getElem?_eq_none (by rw[List.length_set,tabL_len];omega),List.getElem?_eq_none (by rw[tabL_len];omega)]
theorem tabL_zero(m:Nat):List.replicate m (⟨false,[],[]⟩:ARat)=(tabL m (fun _=>0)).map mkR:=by
 refine List.ext_getElem? fun j => ?_
 rw[List.getElem?_map]
 by_cases hj:j<m
 ·rw[tabL_get _ hj,List.getElem?_replicate,if_pos hj];rfl
 ·rw[List.getElem?_eq_none (by rw[List.length_replicate];omega),List.getElem?_eq_none (by rw[tabL_len];omega)];rfl
theorem tabL_coef{m:Nat}{g:Nat→Rat}(h:∀i,m≤i→g i=0)(i:Nat):coef (tabL m g) i=g i:=by
 by_cases hi:i<m
 ·exact coef_of (tabL_get g hi)
 ·rw[coef_ge (by rw[tabL_len];omega),h i (by omega)]
theorem tabL_congr{m:Nat}{f g:Nat→Rat}(h:∀i,i<m→f i=g i):tabL m f=tabL m g:=by
 unfold tabL
 exact List.map_congr_left (fun i hi=>h i (List.mem_range.1 hi))
end Go.Proofs.YtegpfcmnjhmhjaaGreat.Sym
namespace Go.Proofs.YtegpfcmnjhmhjaaGreat.Sym
open Go Path CInt
set_option linter.unusedVariables false
def insR(x:Rat):List Rat→List Rat
 |[]=>[x]
 |a::r=>if a<x then a::insR x r else if a=x then a::r else x::a::r
theorem insR_mem{x y:Rat} : ∀{l:List Rat},y∈insR x l↔y=x∨y∈l
 |[]=>by simp[insR]
 |a::r=>by
  rw[insR]
  split
  ·rw[List.mem_cons,insR_mem (l:=r),List.mem_cons]
   constructor
   ·rintro (h|h|h)
    ·exact .inr (.inl h)
    ·exact .inl h
    ·exact .inr (.inr h)
   ·rintro (h|h|h)
    ·exact .inr (.inl h)
    ·exact .inl h
    ·exact .inr (.inr h)
  ·split
   ·rename_i h
    subst h
    simp
   ·simp
theorem insR_asc{x:Rat} : ∀{l:List Rat},l.Pairwise (·<·)→(insR x l).Pairwise (·<·)
 |[],_=>List.pairwise_singleton _ _
 |a::r,h=>by
  have h1:=(List.pairwise_cons.1 h).1
  have h2:=(List.pairwise_cons.1 h).2
  rw[insR]
  split
  ·rename_i hx
   refine List.pairwise_cons.2 ⟨fun y hy => ?_,insR_asc h2⟩
   rcases insR_mem.1 hy with e|hy
   ·rw[e];exact hx
   ·exact h1 y hy
  ·split
   ·exact h
   ·rename_i n1 n2
    have hxa:x<a:=by grind
    refine List.pairwise_cons.2 ⟨fun y hy => ?_,h⟩
    rcases List.mem_cons.1 hy with e|hy
    ·rw[e];exact hxa
    ·have:=h1 y hy;grind
def shB(bs:List Rat)(byV:Rat):List Rat:=bs.foldl (fun acc b=>insR (frac (b+byV)) acc) [0]
theorem foldIns_mem{byV y:Rat} : ∀{bs acc:List Rat},y∈bs.foldl (fun acc b=>insR (frac (b+byV)) acc) acc↔y∈acc∨∃b∈bs,y=frac (b+byV)
 |[],acc=>by simp
 |b::bs,acc=>by
  rw[List.foldl_cons,foldIns_mem (bs:=bs),insR_mem]
  constructor
  ·rintro ((h|h)|⟨c,hc,h⟩)
   ·exact .inr ⟨b,List.mem_cons_self ..,h⟩
   ·exact .inl h
   ·exact .inr ⟨c,List.mem_cons_of_mem _ hc,h⟩
  ·rintro (h|⟨c,hc,h⟩)
   ·exact .inl (.inr h)
   ·rcases List.mem_cons.1 hc with e|hc
    ·subst e;exact .inl (.inl h)
    ·exact .inr ⟨c,hc,h⟩
theorem foldIns_asc{byV:Rat} : ∀{bs acc:List Rat},acc.Pairwise (·<·)→(bs.foldl (fun acc b=>insR (frac (b+byV)) acc) acc).Pairwise (·<·)
 |[],acc,h=>h
 |b::bs,acc,h=>foldIns_asc (bs:=bs) (insR_asc h)
theorem shB_mem{bs:List Rat}{byV y:Rat} : y∈shB bs byV↔y=0∨∃b∈bs,y=frac (b+byV):=by
 unfold shB;rw[foldIns_mem];simp
theorem shB_asc(bs:List Rat)(byV:Rat):(shB bs byV).Pairwise (·<·):=foldIns_asc (List.pairwise_singleton _ _)
theorem shB_unit{bs:List Rat}{byV y:Rat}(h:y∈shB bs byV):0≤y∧y<1:=by
 rcases shB_mem.1 h with e|⟨b,_,e⟩
 ·subst e;exact⟨Rat.le_refl,by decide⟩
 ·rw[e];exact⟨frac_ge _,frac_lt _⟩
theorem asc_uniq:∀{l m:List Rat},l.Pairwise (·<·)→m.Pairwise (·<·)→(∀y,y∈l↔y∈m)→l=m
 |[],[],_,_,_=>rfl
 |[],b::m,_,_,h=>by have:=(h b).2 (List.mem_cons_self ..);cases this
 |a::l,[],_,_,h=>by have:=(h a).1 (List.mem_cons_self ..);cases this
 |a::l,b::m,hl,hm,h=>by
  have l1:=(List.pairwise_cons.1 hl).1
  have m1:=(List.pairwise_cons.1 hm).1
  have e:a=b:=by
   have h1:=(h a).1 (List.mem_cons_self ..)
   have h2:=(h b).2 (List.mem_cons_self ..)
   rcases List.mem_cons.1 h1 with e|h1
   ·exact e
   ·rcases List.mem_cons.1 h2 with e|h2
    ·exact e.symm
    ·have:=m1 a h1;have:=l1 b h2;grind
  subst e
  congr 1
  refine asc_uniq (List.pairwise_cons.1 hl).2 (List.pairwise_cons.1 hm).2 (fun y => ?_)
  constructor
  ·intro hy
   rcases List.mem_cons.1 ((h y).1 (List.mem_cons_of_mem _ hy)) with e|k
   ·have:=l1 y hy;rw[e] at this;exact absurd this Rat.lt_irrefl
   ·exact k
  ·intro hy
   rcases List.mem_cons.1 ((h y).2 (List.mem_cons_of_mem _ hy)) with e|k
   ·have:=m1 y hy;rw[e] at this;exact absurd this Rat.lt_irrefl
   ·exact k
def addR(acc:List Rat)(x:Rat):List Rat:=if x∈acc then acc else acc++[x]
def gaB(bs:List Rat)(byV:Rat):List Rat:=bs.foldl (fun acc b=>addR acc (frac (b+byV))) [0]
theorem addR_mem{acc:List Rat}{x y:Rat} : y∈addR acc x↔y=x∨y∈acc:=by
 unfold addR
 split
 ·rename_i h
  constructor
  ·exact .inr
  ·rintro (e|k)
   ·rw[e];exact h
   ·exact k
 ·rw[List.mem_append,List.mem_singleton,or_comm]
theorem addR_nodup{acc:List Rat}{x:Rat}(h:acc.Nodup):(addR acc x).Nodup:=by
 unfold addR
 split
 ·exact h
 ·rename_i hx
  rw[List.nodup_append]
  refine⟨h,by simp,fun a ha b hb => ?_⟩
  rw[List.mem_singleton.1 hb]
  intro e;exact hx (e ▸ ha)
theorem foldAdd_mem{byV y:Rat} : ∀{bs acc:List Rat},y∈bs.foldl (fun acc b=>addR acc (frac (b+byV))) acc↔y∈acc∨∃b∈bs,y=frac (b+byV)
 |[],acc=>by simp
 |b::bs,acc=>by
  rw[List.foldl_cons,foldAdd_mem (bs:=bs),addR_mem]
  constructor
  ·rintro ((h|h)|⟨c,hc,h⟩)
   ·exact .inr ⟨b,List.mem_cons_self ..,h⟩
   ·exact .inl h
   ·exact .inr ⟨c,List.mem_cons_of_mem _ hc,h⟩
  ·rintro (h|⟨c,hc,h⟩)
   ·exact .inl (.inr h)
   ·rcases List.mem_cons.1 hc with e|hc
    ·subst e;exact .inl (.inl h)
    ·exact .inr ⟨c,hc,h⟩
theorem foldAdd_nodup{byV:Rat} : ∀{bs acc:List Rat},acc.Nodup→(bs.foldl (fun acc b=>addR acc (frac (b+byV))) acc).Nodup
 |[],acc,h=>h
 |b::bs,acc,h=>foldAdd_nodup (bs:=bs) (addR_nodup h)
theorem gaB_mem{bs:List Rat}{byV y:Rat} : y∈gaB bs byV↔y=0∨∃b∈bs,y=frac (b+byV):=by
 unfold gaB;rw[foldAdd_mem];simp
theorem gaB_nodup(bs:List Rat)(byV:Rat):(gaB bs byV).Nodup:=foldAdd_nodup (by simp)
theorem gaB_sorted{bs:List Rat}{byV:Rat}{z:List Rat}(hp:z.Perm (gaB bs byV))(hs:z.Pairwise fun a b=>a≤b):z=shB bs byV:=by
 have hn:z.Nodup:=hp.nodup_iff.2 (gaB_nodup bs byV)
 have hlt:z.Pairwise (·<·):=(hs.and hn).imp (fun {a b} h=>by have h1:=h.1;have h2:a≠b:=h.2;grind)
 refine asc_uniq hlt (shB_asc _ _) (fun y => ?_)
 rw[hp.mem_iff,gaB_mem,shB_mem]
theorem gaB_shB_len(bs:List Rat)(byV:Rat):(gaB bs byV).length=(shB bs byV).length:=by
 have h1:((gaB bs byV).mergeSort fun a b=>decide (a≤b)).Perm (gaB bs byV):=List.mergeSort_perm _ _
 have h2:=List.pairwise_mergeSort (le:=fun a b:Rat=>decide (a≤b)) (fun a b c h k=>decide_eq_true (Rat.le_trans (of_decide_eq_true h) (of_decide_eq_true k))) (fun a b=>by
  rcases Rat.le_total (a:=a) (b:=b) with h|h
  ·rw[decide_eq_true h];rfl
  ·rw[decide_eq_true h,Bool.or_true]) (gaB bs byV)
 rw[←gaB_sorted h1 (h2.imp (fun h=>of_decide_eq_true h))]
 exact h1.length_eq.symm
def shP(l:ALaw)(x:Rat):List Rat:=trimL (compL (pcW l (pieceL (vals l.breaks) x)) [x-brkW l (pieceL (vals l.breaks) x),1])
def shW(l:ALaw)(byV:Rat):ALaw:=⟨(shB (vals l.breaks) byV).map mkR,(shB (vals l.breaks) byV).map (fun b=>(shP l (frac (b-byV))).map mkR)⟩
theorem mulL_len2(d:Rat):∀p:List Rat,p≠[]→(mulL p [d,1]).length=p.length+1
 |[],h=>absurd rfl h
 |[a],_=>rfl
 |a::b::p,_=>by
  have h:=mulL_len2 d (b::p) (by simp)
  rw[mulL,len_addL,len_smulL]
  simp only[List.length_cons,List.length_nil] at h ⊢;omega
theorem compL_len2(d:Rat):∀p:List Rat,(compL p [d,1]).length=p.length
 |[]=>rfl
 |a::p=>by
  rw[compL,len_addL]
  cases p with
  |nil=>rfl
  |cons b p =>
   have ih:=compL_len2 d (b::p)
   have hne:compL (b::p) [d,1]≠[]:=by intro e;rw[e] at ih;cases ih
   rw[mulL_len2 d _ hne,ih]
   simp only[List.length_cons,List.length_nil];omega
theorem shP_len(l:ALaw)(g:Good l)(x:Rat):(shP l x).length≤9:=by
 unfold shP
 have h1:=len_trimL (compL (pcW l (pieceL (vals l.breaks) x)) [x-brkW l (pieceL (vals l.breaks) x),1])
 rw[compL_len2] at h1
 have h2:=pcW_len g (pieceL (vals l.breaks) x)
 omega
theorem shP_eval(l:ALaw)(x t:Rat):evalL (shP l x) t=evalL (pcW l (pieceL (vals l.breaks) x)) (t+(x-brkW l (pieceL (vals l.breaks) x))):=by
 unfold shP
 rw[evalL_trimL,evalL_compL]
 congr 1
 show(0*t+1)*t+_=_
 grind
theorem frac_eq{x y:Rat}(n:Int)(h:x=y+n)(h0:0≤y)(h1:y<1):frac x=y:=by rw[h,frac_add,frac_id h0 h1]
section
variable {l:ALaw} {byV:Rat}
theorem shW_vals(l:ALaw)(byV:Rat):vals (shW l byV).breaks=shB (vals l.breaks) byV:=vals_mkR _
theorem shW_brk{j:Nat}{b:Rat}(h:(shB (vals l.breaks) byV)[j]? = some b):brkW (shW l byV) j=b:=by
 rw[brkW_of (b:=mkR b) (by unfold shW;rw[List.getElem?_map,h];rfl),mkR_val]
theorem shW_pc{j:Nat}{b:Rat}(h:(shB (vals l.breaks) byV)[j]? = some b):pcW (shW l byV) j=shP l (frac (b-byV)):=by
 rw[pcW_of (p:=(shP l (frac (b-byV))).map mkR) (by unfold shW;rw[List.getElem?_map,h];rfl),vals_mkR]
theorem shW_len:(shW l byV).breaks.length=(shB (vals l.breaks) byV).length∧(shW l byV).pieces.length=(shB (vals l.breaks) byV).length:=by
 unfold shW;simp
theorem chkB_some:∀(bs:List Rat) (q:Rat),(∀b∈bs,0≤b∧b<1)→bs.Pairwise (·<·)→(∀b∈bs,q<b)→chkB (some q) (bs.map mkR)=0
 |[],q,_,_,_=>rfl
 |b::r,q,h1,h2,h3=>by
  have hb:=h1 b (List.mem_cons_self ..)
  have hq:=h3 b (List.mem_cons_self ..)
  rw[List.map_cons,chkB,outB_no (mkR_valid b) (by rw[mkR_val];grind) (by rw[mkR_val];grind),cond_false]
  rw[show badB (some q) (mkR b).val=false from by rw[mkR_val];exact decide_eq_false (by grind),cond_false,mkR_val]
  exact chkB_some r b (fun c hc=>h1 c (List.mem_cons_of_mem _ hc)) (List.pairwise_cons.1 h2).2 (List.pairwise_cons.1 h2).1
theorem shB_head(bs:List Rat)(byV:Rat):∃r,shB bs byV=0::r:=by
 have h0:(0:Rat)∈shB bs byV:=shB_mem.2 (.inl rfl)
 have ha:=shB_asc bs byV
 cases h:shB bs byV with
 |nil=>rw[h] at h0;cases h0
 |cons a r =>
  rw[h] at h0 ha
  rcases List.mem_cons.1 h0 with e|k
  ·exact⟨r,by rw[e]⟩
  ·have h1:=(List.pairwise_cons.1 ha).1 0 k
   have h2:=(shB_unit (bs:=bs) (byV:=byV) (y:=a) (by rw[h];exact List.mem_cons_self ..)).1
   grind
theorem chk_shift(g:Good l)(h16:(shB (vals l.breaks) byV).length≤16):chkLaw (shW l byV)=0:=by
 obtain⟨r,hr⟩:=shB_head (vals l.breaks) byV
 have hne:(shB (vals l.breaks) byV).length≠0:=by rw[hr];simp
 obtain⟨e1,e2⟩:=shW_len (l:=l) (byV:=byV)
 unfold chkLaw
 rw[if_neg (by rw[e1,e2];omega),if_neg (by rw[e1];omega)]
 unfold chkR
 have hb:chkB none (shW l byV).breaks=0:=by
  have hu:∀b∈shB (vals l.breaks) byV,0≤b∧b<1:=fun b hb=>shB_unit hb
  have ha:=shB_asc (vals l.breaks) byV
  show chkB none ((shB (vals l.breaks) byV).map mkR)=0
  rw[hr] at hu ha ⊢
  rw[List.map_cons,chkB,outB_no (mkR_valid 0) (by rw[mkR_val];exact Rat.lt_irrefl) (by rw[mkR_val];decide),cond_false]
  rw[show badB none (mkR 0).val=false from by rw[mkR_val];show decide ((0:Rat)≠0)=false;exact decide_eq_false (fun h=>h rfl),cond_false,mkR_val]
  exact chkB_some r 0 (fun b hb=>hu b (List.mem_cons_of_mem _ hb)) (List.pairwise_cons.1 ha).2 (List.pairwise_cons.1 ha).1
 rw[hb]
 refine chkP_of (fun p hp => ?_)
 obtain⟨b,_,rfl⟩:=List.mem_map.1 hp
 have h9:=shP_len l g (frac (b-byV))
 exact⟨chk_map (lastZ_trimL _) (by omega),by rw[List.length_map];omega⟩
theorem sh_in(g:Good l){j:Nat}{b:Rat}(hj:(shB (vals l.breaks) byV)[j]? = some b) :
  endW (shW l byV) j-b≤endW l (pieceL (vals l.breaks) (frac (b-byV)))-frac (b-byV):=by
 refine Classical.byContradiction fun hn => ?_
 obtain⟨s1,s2,s3⟩:=piece_spec g (frac_ge (b-byV)) (frac_lt (b-byV))
 have hx:frac (b-byV)=b-byV-((b-byV).floor:Rat):=rfl
 generalize hxx:frac (b-byV)=x at *
 generalize pieceL (vals l.breaks) x=i at *
 have hbu:=shB_unit (List.mem_of_getElem? hj)
 have hasc:=shB_asc (vals l.breaks) byV
 have hnext:∀u,u∈shB (vals l.breaks) byV→b<u→endW (shW l byV) j≤u:=by
  intro u hu hbu'
  obtain⟨m,hm,hmu⟩:=List.getElem_of_mem hu
  have hjl:=(List.getElem?_eq_some_iff.1 hj).1
  have hjb:=(List.getElem?_eq_some_iff.1 hj).2
  have hjm:j<m:=by
   rcases Nat.lt_trichotomy j m with h|h|h
   ·exact h
   ·subst h;rw[hjb] at hmu;rw[hmu] at hbu';exact absurd hbu' Rat.lt_irrefl
   ·have:=List.pairwise_iff_getElem.1 hasc m j hm hjl h
    rw[hmu,hjb] at this;grind
  have hj1:j+1<(shB (vals l.breaks) byV).length:=by omega
  have he:endW (shW l byV) j=(shB (vals l.breaks) byV)[j+1]:=by
   rw[endW_next (by rw[shW_len.1];exact hj1)]
   exact shW_brk (List.getElem?_eq_getElem hj1)
  rw[he]
  by_cases e:j+1=m
  ·subst e;rw[hmu];exact Rat.le_refl
  ·have:=List.pairwise_iff_getElem.1 hasc (j+1) m hj1 hm (by omega)
   rw[hmu] at this;exact Rat.le_of_lt this
 have he1:endW (shW l byV) j≤1:=by
  unfold endW
  cases hb:(shW l byV).breaks[j+1]? with
  |none=>exact Rat.le_refl
  |some c =>
   have hc:=List.mem_of_getElem? hb
   obtain⟨d,hd,rfl⟩:=List.mem_map.1 (show c∈(shB (vals l.breaks) byV).map mkR from hc)
   show(mkR d).val≤1
   rw[mkR_val];exact Rat.le_of_lt (shB_unit hd).2
 have hu:b+(endW l i-x)∈shB (vals l.breaks) byV:=by
  refine shB_mem.2 (.inr ?_)
  by_cases hi:i+1<l.breaks.length
  ·obtain⟨c,hc⟩:∃c,l.breaks[i+1]? = some c:=⟨_,List.getElem?_eq_getElem hi⟩
   refine⟨c.val,List.mem_map.2 ⟨c,List.mem_of_getElem? hc,rfl⟩,?_⟩
   have ee:endW l i=c.val:=by unfold endW;rw[hc]
   rw[ee] at s3 hn ⊢
   refine(frac_eq (-(b-byV).floor) ?_ (by grind) (by grind)).symm
   rw[Rat.intCast_neg];grind
  ·have hn0:=g.n0
   obtain⟨c,hc⟩:∃c,l.breaks[0]? = some c:=⟨_,List.getElem?_eq_getElem (by omega)⟩
   have h0:=g.first c hc
   refine⟨c.val,List.mem_map.2 ⟨c,List.mem_of_getElem? hc,rfl⟩,?_⟩
   have ee:endW l i=1:=by unfold endW;rw[List.getElem?_eq_none (by omega)];rfl
   rw[ee] at s3 hn ⊢
   refine(frac_eq (-(b-byV).floor-1) ?_ (by grind) (by grind)).symm
   rw[h0,Rat.intCast_sub,Rat.intCast_neg]
   have:((1:Int):Rat)=1:=rfl
   grind
 have:=hnext _ hu (by grind)
 grind
theorem sh_at(g:Good l)(h16:(shB (vals l.breaks) byV).length≤16)(x:Rat):atW (shW l byV) (x+byV)=atW l x:=by
 have g':=good_of (chk_shift (byV:=byV) g h16)
 rw[atW_eq,shW_vals]
 obtain⟨s1,s2,s3⟩:=piece_spec g' (frac_ge (x+byV)) (frac_lt (x+byV))
 rw[shW_vals] at s1 s2 s3
 generalize pieceL (shB (vals l.breaks) byV) (frac (x+byV))=j at *
 have hjl:j<(shB (vals l.breaks) byV).length:=by rw[←shW_len.1];exact s1
 have hj:(shB (vals l.breaks) byV)[j]? = some ((shB (vals l.breaks) byV)[j]):=List.getElem?_eq_getElem hjl
 generalize (shB (vals l.breaks) byV)[j]=b at hj
 rw[shW_brk hj] at s2 ⊢
 rw[shW_pc hj,shP_eval]
 have hin:=sh_in g hj
 obtain⟨p1,p2,p3⟩:=piece_spec g (frac_ge (b-byV)) (frac_lt (b-byV))
 have hxe:frac (b-byV)=b-byV-((b-byV).floor:Rat):=rfl
 have hye:frac (x+byV)=x+byV-((x+byV).floor:Rat):=rfl
 have e1:=endW_le1 g (pieceL (vals l.breaks) (frac (b-byV)))
 have hf:frac x=frac (b-byV)+(frac (x+byV)-b):=by
  refine frac_eq ((x+byV).floor+(b-byV).floor) ?_ (by have:=frac_ge (b-byV);grind) (by grind)
  rw[Rat.intCast_add];grind
 have hp:pieceL (vals l.breaks) (frac x)=pieceL (vals l.breaks) (frac (b-byV)):=piece_uniq g p1 (by rw[hf];grind) (by rw[hf];grind)
 rw[atW_eq,hp,hf]
 congr 1
 grind
end
end Go.Proofs.YtegpfcmnjhmhjaaGreat.Sym
