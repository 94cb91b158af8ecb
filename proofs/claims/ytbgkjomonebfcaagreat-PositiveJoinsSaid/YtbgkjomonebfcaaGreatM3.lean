/- The statement PositiveJoins is proved: products and sums of positive polynomials are positive; no condition. -/
import Derived.Test.YtbgkjomonebfcaaGreatM0
import Derived.Test.YtbgkjomonebfcaaGreatM2
import Derived.Test.YtbgkjomonebfcaaGreatRows
import Derived.JoinedCond
namespace Go.Proofs.YtbgkjomonebfcaaGreat.Sym.Path
open Go
set_option maxRecDepth 20000
set_option linter.unusedVariables false
namespace positive_Bernstein
theorem e0(p:List ARat)(rV:ARange)(ber:List ARat)(ber1:Option Int)(h1:Contract prg 75 [(polyPV p),rV.pv] .nilI)(h2:Contract prg 76 [(polyPV p),rV.pv] (.tup [(polyPV ber),(errPV ber1)])):Contract prg 18 [(polyPV p),rV.pv] (.tup [(polyPV ber),(errPV ber1)]) :=
 Contract.ofL Tryz.func18 (by kernel_rfl) (L.done mixed tabOk (n:=93) (ns:=[1,1]) (tr:=[.reg [],.reg [.none,.none,(.pv .nilI)],.reg [],.auto,.reg [.none,.none,(.pv (.tup [(polyPV ber),(errPV ber1)]))]]) (cj h1 (cj h2 True.intro)) (by kernel_rfl))
end positive_Bernstein
namespace positive_Decide
theorem e0(p:List ARat)(rV:ARange)(dec:Bool)(dec1:Option Int)(h1:Contract prg 75 [(polyPV p),rV.pv] .nilI)(h2:Contract prg 77 [(polyPV p),rV.pv] (.tup [(vB dec),(errPV dec1)])):Contract prg 19 [(polyPV p),rV.pv] (.tup [(vB dec),(errPV dec1)]) :=
 Contract.ofL Tryz.func19 (by kernel_rfl) (L.done mixed tabOk (n:=93) (ns:=[1,1]) (tr:=[.reg [],.reg [.none,.none,(.pv .nilI)],.reg [],.auto,.reg [.none,.none,(.pv (.tup [(vB dec),(errPV dec1)]))]]) (cj h1 (cj h2 True.intro)) (by kernel_rfl))
end positive_Decide
namespace positive_Everywhere
theorem e0(p:List ARat)(eva:ARat)(sig:Int)(h1:Contract prg 78 [(polyPV p)] .nilI)(h2:Contract prg 27 [(polyPV p),(⟨false,[],[]⟩:ARat).pv] (.tup [eva.pv,.nilI]))(h3:Contract prg 39 [eva.pv] (vI sig))(h4:sig≤0):Contract prg 20 [(polyPV p)] (.tup [(vB false),.nilI]) :=
 Contract.ofL Tryz.func20 (by kernel_rfl) (L.done mixed tabOk (n:=111) (ns:=[1,1,1,1,1,1,1]) (tr:=[.reg [],.reg [.none,(.pv .nilI)],.reg [],.auto,.reg [.none,.none,(.pv (.tup [eva.pv,.nilI]))],.reg [.none,.none,.none,.none,(.pv (vI sig))],.dec true,.reg []]) (cj h1 (cj h2 (cj (Eq.refl false) (cj (Eq.refl false) (cj h3 (cj (Eq.refl false) (cj (dle_t h4) True.intro))))))) (by kernel_rfl))
theorem e1(p:List ARat)(eva:ARat)(sig all:Int)(all1:Option Int)(h1:Contract prg 78 [(polyPV p)] .nilI)(h2:Contract prg 27 [(polyPV p),(⟨false,[],[]⟩:ARat).pv] (.tup [eva.pv,.nilI]))(h3:Contract prg 39 [eva.pv] (vI sig))(h4:0<sig)(h5:Contract prg 79 [(polyPV p)] (.tup [(vI all),(errPV all1)])):Contract prg 20 [(polyPV p)] (.tup [(vB (all==0)),(errPV all1)]) :=
 Contract.ofL Tryz.func20 (by kernel_rfl) (L.done mixed tabOk (n:=120) (ns:=[1,1,1,1,1,1,1,1]) (tr:=[.reg [],.reg [.none,(.pv .nilI)],.reg [],.auto,.reg [.none,.none,(.pv (.tup [eva.pv,.nilI]))],.reg [.none,.none,.none,.none,(.pv (vI sig))],.dec false,.reg [.none,(.pv (.tup [(vI all),(errPV all1)]))],.reg []]) (cj h1 (cj h2 (cj (Eq.refl false) (cj (Eq.refl false) (cj h3 (cj (Eq.refl false) (cj (dle_f h4) (cj h5 True.intro)))))))) (by kernel_rfl))
end positive_Everywhere
namespace positive_Make
theorem e3(p:List ARat)(rV:ARange)(depth:Int)(dec:Bool)(z:List ARat)(h1:Contract prg 75 [(polyPV p),rV.pv] .nilI)(h2:0≤depth)(h3:depth≤8)(h4:Contract prg 77 [(polyPV p),rV.pv] (.tup [(vB dec),.nilI]))(h5:dec=true)(h6:ContractX prg 101 [.pv .nilS,.pv (polyPV p),.pv rV.pv,.pv (vI depth)] [] (.rowT 0 0 z.length 3 [.nilI]) [(0,(.pure ((z:List ARat).map ARat.cells).flatten))]):Contract prg 37 [(polyPV p),rV.pv,(vI depth)] (.tup [(⟨z⟩:APosCert).pv,.nilI]) :=
 Contract.ofL Tryz.func37 (by kernel_rfl) (L.done mixed tabOk (n:=165) (ns:=[1,1,1,1,1,1,1,1,3]) (tr:=[.reg [],.reg [.none,.none,(.pv .nilI)],.reg [],.auto,.reg [.none,.none,.none,.none,.none,(.dec false)],.dec false,.reg [.none,.none,(.pv (.tup [(vB dec),.nilI]))],.reg [],.auto,.reg [],.dec false,.reg [.none,.none,.none,(.callX [] (some (0,45)) (.rowT 0 0 z.length 3 [.nilI]) [(0,(.pure ((z:List ARat).map ARat.cells).flatten))])],.reg [],.auto,.frzT 11 ((z:List ARat).map ARat.cells),.reg []]) (cj h1 (cj (dlt_f h2) (cj (dlt_f h2) (cj (dlt_f h2) (cj (dlt_f h3) (cj h4 (cj (bnot_f h5) (cj h6 (cj (o_frz sz_ARat (z:List ARat) (Eq.refl (z:List ARat).length)) True.intro))))))))) (by kernel_rfl))
end positive_Make
namespace positive_check
theorem e0(p:List ARat)(rV:ARange)(val:Bool)(h1:Contract prg 78 [(polyPV p)] .nilI)(h2:Contract prg 155 [rV.pv] (vB val))(h3:val=false):Contract prg 75 [(polyPV p),rV.pv] (.iface 94 (vI 3)) :=
 Contract.ofL Tryz.func75 (by kernel_rfl) (L.done mixed tabOk (n:=105) (ns:=[1,1,1]) (tr:=[.reg [],.reg [.none,(.pv .nilI)],.reg [],.auto,.reg [.none,(.pv (vB val))],.dec true,.reg []]) (cj h1 (cj h2 (cj (bnot_t h3) True.intro))) (by kernel_rfl))
theorem e1(p:List ARat)(rV:ARange)(val:Bool)(h1:Contract prg 78 [(polyPV p)] .nilI)(h2:Contract prg 155 [rV.pv] (vB val))(h3:val=true):Contract prg 75 [(polyPV p),rV.pv] .nilI :=
 Contract.ofL Tryz.func75 (by kernel_rfl) (L.done mixed tabOk (n:=108) (ns:=[1,1,1]) (tr:=[.reg [],.reg [.none,(.pv .nilI)],.reg [],.auto,.reg [.none,(.pv (vB val))],.dec false,.reg []]) (cj h1 (cj h2 (cj (bnot_f h3) True.intro))) (by kernel_rfl))
theorem e2(p:List ARat)(rV:ARange)(che:Int)(h1:Contract prg 78 [(polyPV p)] (.iface 94 (vI che))):Contract prg 75 [(polyPV p),rV.pv] (.iface 94 (vI che)) :=
 Contract.ofL Tryz.func75 (by kernel_rfl) (L.done mixed tabOk (n:=90) (ns:=[1]) (tr:=[.reg [],.reg [.none,(.pv (.iface 94 (vI che)))],.reg [],.auto,.reg []]) (cj h1 True.intro) (by kernel_rfl))
end positive_check
namespace positive_bernstein
@[reducible] noncomputable def fn:Func:=Tryz.f76
noncomputable def atK1:List Itm:=focus [0,2,0,0,2,1,2,0,2,0,0,2,1,2,0,2,0,2,0,0,2,0,0] [.code (bodyOf fn)]
def inv1(com:List ARat)(deg:Int)(site_87:List ARat)(t_37:Nat):St:=⟨[(6,(.pv (polyPV com))),(8,(eI deg)),(9,(.row 87 0 site_87.length 3)),(36,(eI (deg+1))),(37,(eI (t_37:Int)))],[(87,(.pure ((site_87:List ARat).map ARat.cells).flatten))]⟩
@[reducible] noncomputable def Loop1(com:List ARat)(deg:Int)(site_87:List ARat)(t_37:Nat)(r:PV):Prop:=L prg fn atK1 (inv1 com deg site_87 t_37) r
noncomputable def atK2:List Itm:=focus [0,2,0,0,2,1,2,0,2,0,0,2,1,2,0,2,0,2,0,0,2,0,0,0,0,2,0,0,2,0,0,0,2,0,2,0,0,2,0,0] [.code (bodyOf fn)]
def inv2(com:List ARat)(deg:Int)(site_87:List ARat)(j_10 t_37 t_44 t_45:Nat)(site_11:ARat):St:=⟨[(6,(.pv (polyPV com))),(8,(eI deg)),(9,(.row 87 0 site_87.length 3)),(10,(eI (j_10:Int))),(11,(.ptr 11 0)),(36,(eI (deg+1))),(37,(eI (t_37:Int))),(44,(eI (t_44:Int))),(45,(eI (t_45:Int)))],[(11,(.lit [(eB site_11.neg),(.pv (wordsPV site_11.num)),(.pv (wordsPV site_11.den))])),(87,(.pure ((site_87:List ARat).map ARat.cells).flatten))]⟩
@[reducible] noncomputable def Loop2(com:List ARat)(deg:Int)(site_87:List ARat)(j_10 t_37 t_44 t_45:Nat)(site_11:ARat)(r:PV):Prop:=L prg fn atK2 (inv2 com deg site_87 j_10 t_37 t_44 t_45 site_11) r
theorem e0(p:List ARat)(rV:ARange)(h1:p.length=0):Contract prg 76 [(polyPV p),rV.pv] (.tup [(polyPV []),.nilI]) :=
 Contract.ofL Tryz.func76 (by kernel_rfl) (L.done mixed tabOk (n:=84) (ns:=[1,1]) (tr:=[.reg [],.reg [.none,(iI (p.length:Int))],.dec true,.reg []]) (cj (o_len ARat.cells p) (cj (deqN_t h1) True.intro)) (by kernel_rfl))
theorem e1(p:List ARat)(rV:ARange)(wid:ARat)(tri com:List ARat)(deg:Int){r:PV}(h1:p.length≠0)(h2:Contract prg 156 [rV.pv] wid.pv)(h3:Contract prg 148 [(polyPV [rV.lo,wid])] (polyPV tri))(h4:Contract prg 150 [(polyPV p),(polyPV tri)] (.tup [(polyPV com),.nilI]))(h5:Contract prg 157 [(polyPV p)] (vI deg))(h6:InI64 (deg+1))(hL:Loop1 com deg [] 0 r):Contract prg 76 [(polyPV p),rV.pv] r :=
 Contract.ofL Tryz.func76 (by kernel_rfl) (L.go mixed tabOk (n:=129) (ns:=[1,1,1,3,1,1,1,1]) (tr:=[.reg [],.reg [.none,(iI (p.length:Int))],.dec false,dr 12 1 [.none,.none,.none,.none,(.pv wid.pv),(.slc 0 0 (([rV.lo,wid]:List ARat).map ARat.cells)),(.pv (polyPV tri)),(.pv (.tup [(polyPV com),.nilI]))],.reg [],.auto,.reg [.none,(.pv (vI deg))],.reg [.nil],.adopt 9 87 3,.reg [.none,(iI (deg+1))],.keep [6,8,9,36,37],.drop [3]]) (cj (o_len ARat.cells p) (cj (deqN_f h1) (cj h2 (cj (o_bs sz_ARat ([rV.lo,wid]:List ARat)) (cj h3 (cj h4 (cj h5 (cj (bs_add h6) True.intro)))))))) (by kernel_rfl) hL)
theorem l10(com:List ARat)(deg:Int)(site_87:List ARat)(t_37:Nat){r:PV}(h1:(t_37:Int)<(deg+1))(h2:(t_37+1)<9223372036854775808)(hL:Loop2 com deg site_87 t_37 t_37 (min (t_37+1) com.length) 0 (⟨false,[],[]⟩:ARat) r):Loop1 com deg site_87 t_37 r :=
 L.go mixed tabOk (n:=180) (ns:=[1,1,1,1]) (tr:=[.auto,.reg [],.dec true,.reg [],.reg [],.reg [.none,(iI (((t_37+1):Nat):Int)),.none,(iI (com.length:Int)),(iI (((min (t_37+1) com.length):Nat):Int))],.keep [6,8,9,10,11,36,37,44,45]]) (cj (dlt_t h1) (cj (bs_addN h2) (cj (o_len ARat.cells com) (cj (o_minN (t_37+1) com.length) True.intro)))) (by kernel_rfl) hL
theorem l11(com:List ARat)(deg:Int)(site_87:List ARat)(t_37:Nat)(h1:(deg+1)≤(t_37:Int)):Loop1 com deg site_87 t_37 (.tup [(polyPV site_87),.nilI]) :=
 L.done mixed tabOk (n:=162) (ns:=[1,3]) (tr:=[.auto,.reg [],.dec false,.reg [],.frzT 4 ((site_87:List ARat).map ARat.cells)]) (cj (dlt_f h1) (cj (o_frz sz_ARat (site_87:List ARat) (Eq.refl (site_87:List ARat).length)) True.intro)) (by kernel_rfl)
theorem l20(com:List ARat)(deg:Int)(site_87:List ARat)(j_10 t_37 t_44 t_45:Nat)(site_11 cho cho2 div v mul add:ARat){r:PV}(h1:t_45<t_44)(h2:Contract prg 158 [(vI (j_10:Int)),(vI (t_45:Int))] (.tup [cho.pv,.nilI]))(h3:Contract prg 158 [(vI deg),(vI (t_45:Int))] (.tup [cho2.pv,.nilI]))(h4:Contract prg 109 [cho.pv,cho2.pv] (.tup [div.pv,.nilI]))(h5:com[t_45]? = some v)(h6:Contract prg 85 [div.pv,v.pv] mul.pv)(h7:Contract prg 63 [site_11.pv,mul.pv] add.pv)(h8:(t_45+1)<9223372036854775808)(hL:Loop2 com deg site_87 j_10 t_37 t_44 (t_45+1) add r):Loop2 com deg site_87 j_10 t_37 t_44 t_45 site_11 r :=
 L.go mixed tabOk (n:=282) (ns:=[1,1,1,1,3,1,1,1]) (tr:=[.auto,.reg [],.dec true,.reg [],.reg [.none,.none,(.pv (.tup [cho.pv,.nilI]))],.reg [],.auto,.reg [.none,.none,(.pv (.tup [cho2.pv,.nilI]))],.reg [],.auto,.reg [.none,.none,(.pv (.tup [div.pv,.nilI]))],.reg [],.auto,dr 8 1 [.none,.none,.none,.none,(.row t_45 (ARat.cells v)),.none,(.pv mul.pv),(.pv add.pv)],.reg [(iI (((t_45+1):Nat):Int))],.keep [6,8,9,10,11,36,37,44,45],.drop [15,13]]) (cj (dltN_t h1) (cj h2 (cj h3 (cj h4 (cj (o_at ARat.cells (Eq.refl (((t_45:Nat):Int):Int)) h5) (cj h6 (cj h7 (cj (bs_addN h8) True.intro)))))))) (by kernel_rfl) hL
theorem l24(com:List ARat)(deg:Int)(site_87:List ARat)(j_10 t_37 t_44 t_45:Nat)(site_11:ARat){r:PV}(h1:t_44≤t_45)(h2:((site_87++[site_11]):List ARat).length*56≤140737488355328)(h3:(t_37+1)<9223372036854775808)(hL:Loop1 com deg (site_87++[site_11]) (t_37+1) r):Loop2 com deg site_87 j_10 t_37 t_44 t_45 site_11 r :=
 L.go mixed tabOk (n:=216) (ns:=[1,6,1]) (tr:=[.auto,.reg [],.dec false,.reg [.none,.none,.none,(.app ((site_87++[site_11]):List ARat).length (((site_87++[site_11]):List ARat).map ARat.cells).flatten)],.reg [(iI (((t_37+1):Nat):Int))],.keep [6,8,9,36,37],.drop [86,11]]) (cj (dltN_f h1) (cj (o_appR sz_ARat (site_87:List ARat) ([site_11]:List ARat) 56 (Eq.refl (site_87:List ARat).length) (Eq.refl ([site_11]:List ARat).length) h2 rfl) (cj (bs_addN h3) True.intro))) (by kernel_rfl) hL
end positive_bernstein
namespace positive_decide
theorem e0(p:List ARat)(rV:ARange)(eva:ARat)(sig:Int)(h1:Contract prg 27 [(polyPV p),rV.lo.pv] (.tup [eva.pv,.nilI]))(h2:Contract prg 39 [eva.pv] (vI sig))(h3:sig≤0):Contract prg 77 [(polyPV p),rV.pv] (.tup [(vB false),.nilI]) :=
 Contract.ofL Tryz.func77 (by kernel_rfl) (L.done mixed tabOk (n:=90) (ns:=[1,1,1,1,1,1]) (tr:=[.reg [],.reg [.none,.none,.none,(.pv (.tup [eva.pv,.nilI]))],.reg [.none,.none,.none,.none,(.pv (vI sig))],.dec true,.reg []]) (cj h1 (cj (Eq.refl false) (cj (Eq.refl false) (cj h2 (cj (Eq.refl false) (cj (dle_t h3) True.intro)))))) (by kernel_rfl))
theorem e1(p:List ARat)(rV:ARange)(eva:ARat)(sig cou:Int)(cou1:Option Int)(h1:Contract prg 27 [(polyPV p),rV.lo.pv] (.tup [eva.pv,.nilI]))(h2:Contract prg 39 [eva.pv] (vI sig))(h3:0<sig)(h4:Contract prg 159 [(polyPV p),rV.lo.pv,rV.hi.pv] (.tup [(vI cou),(errPV cou1)])):Contract prg 77 [(polyPV p),rV.pv] (.tup [(vB (cou==0)),(errPV cou1)]) :=
 Contract.ofL Tryz.func77 (by kernel_rfl) (L.done mixed tabOk (n:=99) (ns:=[1,1,1,1,1,1,1]) (tr:=[.reg [],.reg [.none,.none,.none,(.pv (.tup [eva.pv,.nilI]))],.reg [.none,.none,.none,.none,(.pv (vI sig))],.dec false,.reg [.none,.none,.none,.none,.none,(.pv (.tup [(vI cou),(errPV cou1)]))],.reg []]) (cj h1 (cj (Eq.refl false) (cj (Eq.refl false) (cj h2 (cj (Eq.refl false) (cj (dle_f h3) (cj h4 True.intro))))))) (by kernel_rfl))
end positive_decide
namespace linkworkref31_Error
theorem e0(p:List ARat)(rV:ARange)(che:Int)(h1:Contract prg 83 [(polyPV p)] (vI che))(h2:che≠0):Contract prg 80 [(polyPV p),rV.pv] (vI che) :=
 Contract.ofL Tryz.func80 (by kernel_rfl) (L.done mixed tabOk (n:=90) (ns:=[1,1]) (tr:=[.reg [],.reg [.none,(.pv (vI che))],.reg [],.dec true,.reg []]) (cj h1 (cj (dne_t h2) True.intro)) (by kernel_rfl))
theorem e1(p:List ARat)(rV:ARange)(che:Int)(val:Bool)(h1:Contract prg 83 [(polyPV p)] (vI che))(h2:che=0)(h3:Contract prg 161 [rV.pv] (vB val))(h4:val=false):Contract prg 80 [(polyPV p),rV.pv] (vI 3) :=
 Contract.ofL Tryz.func80 (by kernel_rfl) (L.done mixed tabOk (n:=105) (ns:=[1,1,1,1]) (tr:=[.reg [],.reg [.none,(.pv (vI che))],.reg [],.dec false,.reg [.none,(.pv (vB val))],.dec true,.reg []]) (cj h1 (cj (dne_f h2) (cj h3 (cj (bnot_t h4) True.intro)))) (by kernel_rfl))
theorem e2(p:List ARat)(rV:ARange)(che:Int)(val:Bool)(h1:Contract prg 83 [(polyPV p)] (vI che))(h2:che=0)(h3:Contract prg 161 [rV.pv] (vB val))(h4:val=true):Contract prg 80 [(polyPV p),rV.pv] (vI 0) :=
 Contract.ofL Tryz.func80 (by kernel_rfl) (L.done mixed tabOk (n:=108) (ns:=[1,1,1,1]) (tr:=[.reg [],.reg [.none,(.pv (vI che))],.reg [],.dec false,.reg [.none,(.pv (vB val))],.dec false,.reg []]) (cj h1 (cj (dne_f h2) (cj h3 (cj (bnot_f h4) True.intro)))) (by kernel_rfl))
end linkworkref31_Error
namespace positive_clear
@[reducible] noncomputable def fn:Func:=Tryz.f98
noncomputable def atK1:List Itm:=focus [0,2,0,2,0,0,2,1,2,0,0,2,0,0] [.code (bodyOf fn)]
def inv1(ber:List ARat)(t_26:Nat):St:=⟨[(6,(.pv (polyPV ber))),(24,(.pv (polyPV ber))),(25,(eI (ber.length:Int))),(26,(eI (t_26:Int)))],[]⟩
@[reducible] noncomputable def Loop1(ber:List ARat)(t_26:Nat)(r:PV):Prop:=L prg fn atK1 (inv1 ber t_26) r
theorem e0(p:List ARat)(rV:ARange)(ber:List ARat)(h1:Contract prg 76 [(polyPV p),rV.pv] (.tup [(polyPV ber),.nilI]))(h2:ber.length=0):Contract prg 98 [(polyPV p),rV.pv] (.tup [(vB false),.nilI]) :=
 Contract.ofL Tryz.func98 (by kernel_rfl) (L.done mixed tabOk (n:=90) (ns:=[1,1,1,1,1,1]) (tr:=[.reg [],.reg [.none,.none,(.pv (.tup [(polyPV ber),.nilI]))],.reg [.none,.none,.none,.none,(iI (ber.length:Int))],.dec true,.reg []]) (cj h1 (cj (Eq.refl false) (cj (Eq.refl false) (cj (o_len ARat.cells ber) (cj (Eq.refl false) (cj (deqN_t h2) True.intro)))))) (by kernel_rfl))
theorem e1(p:List ARat)(rV:ARange)(ber:List ARat){r:PV}(h1:Contract prg 76 [(polyPV p),rV.pv] (.tup [(polyPV ber),.nilI]))(h2:ber.length≠0)(hL:Loop1 ber 0 r):Contract prg 98 [(polyPV p),rV.pv] r :=
 Contract.ofL Tryz.func98 (by kernel_rfl) (L.go mixed tabOk (n:=102) (ns:=[1,1,1,1,1,1,1]) (tr:=[.reg [],.reg [.none,.none,(.pv (.tup [(polyPV ber),.nilI]))],.reg [.none,.none,.none,.none,(iI (ber.length:Int))],.dec false,.reg [.none,(iI (ber.length:Int))],.keep [6,24,25,26],.drop [3]]) (cj h1 (cj (Eq.refl false) (cj (Eq.refl false) (cj (o_len ARat.cells ber) (cj (Eq.refl false) (cj (deqN_f h2) (cj (o_len ARat.cells ber) True.intro))))))) (by kernel_rfl) hL)
theorem l10(ber:List ARat)(t_26:Nat)(v:ARat)(sig:Int)(h1:t_26<ber.length)(h2:ber[t_26]? = some v)(h3:Contract prg 39 [v.pv] (vI sig))(h4:sig<0):Loop1 ber t_26 (.tup [(vB false),.nilI]) :=
 L.done mixed tabOk (n:=147) (ns:=[1,3,1,1]) (tr:=[.auto,.reg [],.dec true,.reg [(.row t_26 (ARat.cells v))],.reg [.none,(.pv (vI sig))],.dec true,.reg []]) (cj (dltN_t h1) (cj (o_at ARat.cells (Eq.refl (((t_26:Nat):Int):Int)) h2) (cj h3 (cj (dlt_t h4) True.intro)))) (by kernel_rfl)
theorem l11(ber:List ARat)(t_26:Nat)(v:ARat)(sig:Int){r:PV}(h1:t_26<ber.length)(h2:ber[t_26]? = some v)(h3:Contract prg 39 [v.pv] (vI sig))(h4:0≤sig)(h5:(t_26+1)<9223372036854775808)(hL:Loop1 ber (t_26+1) r):Loop1 ber t_26 r :=
 L.go mixed tabOk (n:=150) (ns:=[1,3,1,1,1]) (tr:=[.auto,.reg [],.dec true,.reg [(.row t_26 (ARat.cells v))],.reg [.none,(.pv (vI sig))],.dec false,.reg [(iI (((t_26+1):Nat):Int))],.keep [6,24,25,26],.drop [9]]) (cj (dltN_t h1) (cj (o_at ARat.cells (Eq.refl (((t_26:Nat):Int):Int)) h2) (cj h3 (cj (dlt_f h4) (cj (bs_addN h5) True.intro))))) (by kernel_rfl) hL
theorem l12(ber:List ARat)(t_26:Nat)(v:ARat)(sig:Int)(k:Nat)(v1:ARat)(sig1:Int)(h1:ber.length≤t_26)(h2:ber[0]? = some v)(h3:Contract prg 39 [v.pv] (vI sig))(h4:0<sig)(h5:InI64 ((ber.length:Int)-1))(h6:((ber.length:Int)-1)=(k:Int))(h7:ber[k]? = some v1)(h8:Contract prg 39 [v1.pv] (vI sig1)):Loop1 ber t_26 (.tup [(vB (decide (sig1>0))),.nilI]) :=
 L.done mixed tabOk (n:=135) (ns:=[1,3,1,1,1,1,1,1,1,1,3,1,1,1,1,1]) (tr:=[.auto,.reg [],.dec false,.reg [.none,(.row 0 (ARat.cells v)),.none,(.pv (vI sig)),.none,.none,.none,.none,(iI (ber.length:Int)),(iI ((ber.length:Int)-1)),(.row k (ARat.cells v1)),.none,(.pv (vI sig1)),.none,(.dec true)]]) (cj (dltN_f h1) (cj (o_at ARat.cells (Eq.refl (0:Int)) h2) (cj h3 (cj (dlt_t h4) (cj (dlt_t h4) (cj (dlt_t h4) (cj (o_len ARat.cells ber) (cj (dlt_t h4) (cj (bs_sub h5) (cj (dlt_t h4) (cj (o_at ARat.cells h6 h7) (cj (dlt_t h4) (cj (dlt_t h4) (cj h8 (cj (dlt_t h4) (cj (dlt_t h4) True.intro)))))))))))))))) (by kernel_rfl)
theorem l13(ber:List ARat)(t_26:Nat)(v:ARat)(sig:Int)(h1:ber.length≤t_26)(h2:ber[0]? = some v)(h3:Contract prg 39 [v.pv] (vI sig))(h4:sig≤0):Loop1 ber t_26 (.tup [(vB false),.nilI]) :=
 L.done mixed tabOk (n:=135) (ns:=[1,3,1,1,1,1,1,1,1,1,1,1]) (tr:=[.auto,.reg [],.dec false,.reg [.none,(.row 0 (ARat.cells v)),.none,(.pv (vI sig)),.none,.none,.skip,.skip,.skip,.skip,.skip,.skip,.skip,.skip,(.dec false)]]) (cj (dltN_f h1) (cj (o_at ARat.cells (Eq.refl (0:Int)) h2) (cj h3 (cj (dlt_f h4) (cj (dlt_f h4) (cj (dlt_f h4) (cj (dlt_f h4) (cj (dlt_f h4) (cj (dlt_f h4) (cj (dlt_f h4) (cj (dlt_f h4) (cj (dlt_f h4) True.intro)))))))))))) (by kernel_rfl)
end positive_clear
namespace positive_cutN
@[reducible] noncomputable def fn:Func:=Tryz.f101
theorem e0(p:List ARat)(rV:ARange)(depth:Int)(cle:Bool)(h1:Contract prg 98 [(polyPV p),rV.pv] (.tup [(vB cle),.nilI]))(h2:cle=true):ContractX prg 101 [(.pv .nilS),(.pv (polyPV p)),(.pv rV.pv),(eI depth)] [] (.rowT 0 0 0 3 [.nilI]) [(0,(.pure (([]:List ARat).map ARat.cells).flatten))] :=
 ContractX.ofL Tryz.func101 (by kernel_rfl) (LX.done mixed tabOk (n:=90) (ns:=[1,1,1]) (tr:=[.adopt 0 1 3,.reg [],.reg [.none,.none,(.pv (.tup [(vB cle),.nilI]))],.reg [],.dec true,.reg [],.ren 1 0,.drop [6],.ord [0]]) rfl (cj h1 (cj (Eq.refl false) (cj h2 True.intro))) (by kernel_rfl))
theorem e1(p:List ARat)(rV:ARange)(depth:Int)(cle:Bool)(h1:Contract prg 98 [(polyPV p),rV.pv] (.tup [(vB cle),.nilI]))(h2:cle=false)(h3:depth=0):ContractX prg 101 [(.pv .nilS),(.pv (polyPV p)),(.pv rV.pv),(eI depth)] [] (.rowT 0 0 0 3 [(.iface 94 (vI 15))]) [(0,(.pure (([]:List ARat).map ARat.cells).flatten))] :=
 ContractX.ofL Tryz.func101 (by kernel_rfl) (LX.done mixed tabOk (n:=105) (ns:=[1,1,1,1]) (tr:=[.adopt 0 1 3,.reg [],.reg [.none,.none,(.pv (.tup [(vB cle),.nilI]))],.reg [],.dec false,.reg [],.dec true,.reg [.none,.nil],.adopt 8 0 3,.drop [6,1],.ord [0]]) rfl (cj h1 (cj (Eq.refl false) (cj h2 (cj (deq_t h3) True.intro)))) (by kernel_rfl))
theorem e2_any0(p:List ARat)(rV:ARange)(depth:Int)(mid:ARat)(z z1:List ARat)(cut1:Option Int):anyL prg tab fn.ntmps (opsAt (focus [0,2,0,2,0,0,2,1,2,0,0,2,1,2,0,2,0,0,2,0,2,1,2,0] [.code (bodyOf fn)])) (downs (opsAt (focus [0,2,0,2,0,0,2,1,2,0,0,2,1,2,0,2,0,0,2,0,2,1,2,0] [.code (bodyOf fn)]))) [.none,.none,.none,(.app ((z++[mid]):List ARat).length (((z++[mid]):List ARat).map ARat.cells).flatten),.none,.none,.none,.none,.none,.none,(iI (depth-1)),(.callX [(49,200000)] (some (0,57)) (.rowT 0 0 z1.length 3 [(errPV cut1)]) [(0,(.pure ((z1:List ARat).map ARat.cells).flatten))]),.none,.none,.none,.none] ⟨[(0,(.row 40 0 z.length 3)),(1,(.pv (polyPV p))),(3,(eI depth)),(6,(.ptr 6 0)),(12,(.ptr 12 0))],[(40,(.pure ((z:List ARat).map ARat.cells).flatten)),(12,(.lit [(eB mid.neg),(.pv (wordsPV mid.num)),(.pv (wordsPV mid.den))])),(6,(.lit [(eB rV.lo.neg),(.pv (wordsPV rV.lo.num)),(.pv (wordsPV rV.lo.den)),(eB rV.hi.neg),(.pv (wordsPV rV.hi.num)),(.pv (wordsPV rV.hi.den))]))]⟩=anyR prg tab fn.ntmps (opsAt (focus [0,2,0,2,0,0,2,1,2,0,0,2,1,2,0,2,0,0,2,0,2,1,2,0] [.code (bodyOf fn)])) (downs (opsAt (focus [0,2,0,2,0,0,2,1,2,0,0,2,1,2,0,2,0,0,2,0,2,1,2,0] [.code (bodyOf fn)]))) [.none,.none,.none,(.app ((z++[mid]):List ARat).length (((z++[mid]):List ARat).map ARat.cells).flatten),.none,.none,.none,.none,.none,.none,(iI (depth-1)),(.callX [(49,200000)] (some (0,57)) (.rowT 0 0 z1.length 3 [(errPV cut1)]) [(0,(.pure ((z1:List ARat).map ARat.cells).flatten))]),.none,.none,.none,.none] ⟨[(0,(.row 40 0 z.length 3)),(1,(.pv (polyPV p))),(3,(eI depth)),(6,(.ptr 6 0)),(12,(.ptr 12 0))],[(40,(.pure ((z:List ARat).map ARat.cells).flatten)),(12,(.lit [(eB mid.neg),(.pv (wordsPV mid.num)),(.pv (wordsPV mid.den))])),(6,(.lit [(eB rV.lo.neg),(.pv (wordsPV rV.lo.num)),(.pv (wordsPV rV.lo.den)),(eB rV.hi.neg),(.pv (wordsPV rV.hi.num)),(.pv (wordsPV rV.hi.den))]))]⟩:=by kernel_rfl
theorem e2(p:List ARat)(rV:ARange)(depth:Int)(cle:Bool)(mid:ARat)(z z1:List ARat)(cut1:Option Int)(h1:Contract prg 98 [(polyPV p),rV.pv] (.tup [(vB cle),.nilI]))(h2:cle=false)(h3:depth≠0)(h4:Contract prg 183 [rV.pv] mid.pv)(h5:InI64 (depth-1))(h6:ContractX prg 101 [.row 200000 0 0 3,.pv (polyPV p),.pv (⟨rV.lo,mid⟩:ARange).pv,.pv (vI (depth-1))] [(200000,(.pure (([]:List ARat).map ARat.cells).flatten))] (.rowT 0 0 z.length 3 [.nilI]) [(0,(.pure ((z:List ARat).map ARat.cells).flatten))])(h7:((z++[mid]):List ARat).length*56≤140737488355328)(h8:ContractX prg 101 [.row 200000 0 ((z++[mid]).length) 3,.pv (polyPV p),.pv (⟨mid,rV.hi⟩:ARange).pv,.pv (vI (depth-1))] [(200000,(.pure (((z++[mid]):List ARat).map ARat.cells).flatten))] (.rowT 0 0 z1.length 3 [(errPV cut1)]) [(0,(.pure ((z1:List ARat).map ARat.cells).flatten))]):ContractX prg 101 [(.pv .nilS),(.pv (polyPV p)),(.pv rV.pv),(eI depth)] [] (.rowT 0 0 z1.length 3 [(errPV cut1)]) [(0,(.pure ((z1:List ARat).map ARat.cells).flatten))] :=
 ContractX.ofL Tryz.func101 (by kernel_rfl) (LX.done mixed tabOk (n:=135) (ns:=[1,1,1,1,1,1,1,6,1,1,1]) (tr:=[.adopt 0 1 3,.reg [],.reg [.none,.none,(.pv (.tup [(vB cle),.nilI]))],.reg [],.dec false,.reg [],.dec false,.reg [.none,(.pv mid.pv)],.reg [.none,.none,.none,.none,.none,.none,.none,(iI (depth-1)),(.callX [(1,200000)] (some (0,40)) (.rowT 0 0 z.length 3 [.nilI]) [(0,(.pure ((z:List ARat).map ARat.cells).flatten))])],.reg [],.auto,.keep [0,1,3,6,12],.any [.none,.none,.none,(.app ((z++[mid]):List ARat).length (((z++[mid]):List ARat).map ARat.cells).flatten),.none,.none,.none,.none,.none,.none,(iI (depth-1)),(.callX [(49,200000)] (some (0,57)) (.rowT 0 0 z1.length 3 [(errPV cut1)]) [(0,(.pure ((z1:List ARat).map ARat.cells).flatten))]),.none,.none,.none,.none],.ren 57 0,.drop [48,12,6],.ord [0]]) rfl (cj h1 (cj (Eq.refl false) (cj h2 (cj (deq_f h3) (cj h4 (cj (bs_sub h5) (cj h6 (cj (o_appR sz_ARat (z:List ARat) ([mid]:List ARat) 56 (Eq.refl (z:List ARat).length) (Eq.refl ([mid]:List ARat).length) h7 rfl) (cj (bs_sub h5) (cj h8 (cj (e2_any0 p rV depth mid z z1 cut1) True.intro))))))))))) (by kernel_rfl))
theorem e3(p:List ARat)(rV:ARange)(depth:Int)(cle:Bool)(mid:ARat)(z:List ARat)(cut:Int)(h1:Contract prg 98 [(polyPV p),rV.pv] (.tup [(vB cle),.nilI]))(h2:cle=false)(h3:depth≠0)(h4:Contract prg 183 [rV.pv] mid.pv)(h5:InI64 (depth-1))(h6:ContractX prg 101 [.row 200000 0 0 3,.pv (polyPV p),.pv (⟨rV.lo,mid⟩:ARange).pv,.pv (vI (depth-1))] [(200000,(.pure (([]:List ARat).map ARat.cells).flatten))] (.rowT 0 0 z.length 3 [(.iface 94 (vI cut))]) [(0,(.pure ((z:List ARat).map ARat.cells).flatten))]):ContractX prg 101 [(.pv .nilS),(.pv (polyPV p)),(.pv rV.pv),(eI depth)] [] (.rowT 0 0 0 3 [(.iface 94 (vI cut))]) [(0,(.pure (([]:List ARat).map ARat.cells).flatten))] :=
 ContractX.ofL Tryz.func101 (by kernel_rfl) (LX.done mixed tabOk (n:=132) (ns:=[1,1,1,1,1,1,1]) (tr:=[.adopt 0 1 3,.reg [],.reg [.none,.none,(.pv (.tup [(vB cle),.nilI]))],.reg [],.dec false,.reg [],.dec false,.reg [.none,(.pv mid.pv)],.reg [.none,.none,.none,.none,.none,.none,.none,(iI (depth-1)),(.callX [(1,200000)] (some (0,40)) (.rowT 0 0 z.length 3 [(.iface 94 (vI cut))]) [(0,(.pure ((z:List ARat).map ARat.cells).flatten))])],.reg [],.auto,.reg [.none,.nil],.adopt 8 0 3,.drop [40,12,6],.ord [0]]) rfl (cj h1 (cj (Eq.refl false) (cj h2 (cj (deq_f h3) (cj h4 (cj (bs_sub h5) (cj h6 True.intro))))))) (by kernel_rfl))
end positive_cutN
namespace positive_cutG
@[reducible] noncomputable def fn:Func:=Tryz.f101
theorem e0(out p:List ARat)(rV:ARange)(depth:Int)(cle:Bool)(h1:Contract prg 98 [(polyPV p),rV.pv] (.tup [(vB cle),.nilI]))(h2:cle=true):ContractX prg 101 [(.row 200000 0 out.length 3),(.pv (polyPV p)),(.pv rV.pv),(eI depth)] [(200000,(.pure ((out:List ARat).map ARat.cells).flatten))] (.rowT 0 0 out.length 3 [.nilI]) [(0,(.pure ((out:List ARat).map ARat.cells).flatten))] :=
 ContractX.ofL Tryz.func101 (by kernel_rfl) (LX.done mixed tabOk (n:=90) (ns:=[1,1,1]) (tr:=[.ren 200000 1,.reg [],.reg [.none,.none,(.pv (.tup [(vB cle),.nilI]))],.reg [],.dec true,.reg [],.ren 1 0,.drop [6],.ord [0]]) rfl (cj h1 (cj (Eq.refl false) (cj h2 True.intro))) (by kernel_rfl))
theorem e1(out p:List ARat)(rV:ARange)(depth:Int)(cle:Bool)(h1:Contract prg 98 [(polyPV p),rV.pv] (.tup [(vB cle),.nilI]))(h2:cle=false)(h3:depth=0):ContractX prg 101 [(.row 200000 0 out.length 3),(.pv (polyPV p)),(.pv rV.pv),(eI depth)] [(200000,(.pure ((out:List ARat).map ARat.cells).flatten))] (.rowT 0 0 0 3 [(.iface 94 (vI 15))]) [(0,(.pure (([]:List ARat).map ARat.cells).flatten))] :=
 ContractX.ofL Tryz.func101 (by kernel_rfl) (LX.done mixed tabOk (n:=105) (ns:=[1,1,1,1]) (tr:=[.ren 200000 1,.reg [],.reg [.none,.none,(.pv (.tup [(vB cle),.nilI]))],.reg [],.dec false,.reg [],.dec true,.reg [.none,.nil],.adopt 8 0 3,.drop [6,1],.ord [0]]) rfl (cj h1 (cj (Eq.refl false) (cj h2 (cj (deq_t h3) True.intro)))) (by kernel_rfl))
theorem e2_any0(p:List ARat)(rV:ARange)(depth:Int)(mid:ARat)(z z1:List ARat)(cut1:Option Int):anyL prg tab fn.ntmps (opsAt (focus [0,2,0,2,0,0,2,1,2,0,0,2,1,2,0,2,0,0,2,0,2,1,2,0] [.code (bodyOf fn)])) (downs (opsAt (focus [0,2,0,2,0,0,2,1,2,0,0,2,1,2,0,2,0,0,2,0,2,1,2,0] [.code (bodyOf fn)]))) [.none,.none,.none,(.app ((z++[mid]):List ARat).length (((z++[mid]):List ARat).map ARat.cells).flatten),.none,.none,.none,.none,.none,.none,(iI (depth-1)),(.callX [(49,200000)] (some (0,57)) (.rowT 0 0 z1.length 3 [(errPV cut1)]) [(0,(.pure ((z1:List ARat).map ARat.cells).flatten))]),.none,.none,.none,.none] ⟨[(0,(.row 40 0 z.length 3)),(1,(.pv (polyPV p))),(3,(eI depth)),(6,(.ptr 6 0)),(12,(.ptr 12 0))],[(40,(.pure ((z:List ARat).map ARat.cells).flatten)),(12,(.lit [(eB mid.neg),(.pv (wordsPV mid.num)),(.pv (wordsPV mid.den))])),(6,(.lit [(eB rV.lo.neg),(.pv (wordsPV rV.lo.num)),(.pv (wordsPV rV.lo.den)),(eB rV.hi.neg),(.pv (wordsPV rV.hi.num)),(.pv (wordsPV rV.hi.den))]))]⟩=anyR prg tab fn.ntmps (opsAt (focus [0,2,0,2,0,0,2,1,2,0,0,2,1,2,0,2,0,0,2,0,2,1,2,0] [.code (bodyOf fn)])) (downs (opsAt (focus [0,2,0,2,0,0,2,1,2,0,0,2,1,2,0,2,0,0,2,0,2,1,2,0] [.code (bodyOf fn)]))) [.none,.none,.none,(.app ((z++[mid]):List ARat).length (((z++[mid]):List ARat).map ARat.cells).flatten),.none,.none,.none,.none,.none,.none,(iI (depth-1)),(.callX [(49,200000)] (some (0,57)) (.rowT 0 0 z1.length 3 [(errPV cut1)]) [(0,(.pure ((z1:List ARat).map ARat.cells).flatten))]),.none,.none,.none,.none] ⟨[(0,(.row 40 0 z.length 3)),(1,(.pv (polyPV p))),(3,(eI depth)),(6,(.ptr 6 0)),(12,(.ptr 12 0))],[(40,(.pure ((z:List ARat).map ARat.cells).flatten)),(12,(.lit [(eB mid.neg),(.pv (wordsPV mid.num)),(.pv (wordsPV mid.den))])),(6,(.lit [(eB rV.lo.neg),(.pv (wordsPV rV.lo.num)),(.pv (wordsPV rV.lo.den)),(eB rV.hi.neg),(.pv (wordsPV rV.hi.num)),(.pv (wordsPV rV.hi.den))]))]⟩:=by kernel_rfl
theorem e2(out p:List ARat)(rV:ARange)(depth:Int)(cle:Bool)(mid:ARat)(z z1:List ARat)(cut1:Option Int)(h1:Contract prg 98 [(polyPV p),rV.pv] (.tup [(vB cle),.nilI]))(h2:cle=false)(h3:depth≠0)(h4:Contract prg 183 [rV.pv] mid.pv)(h5:InI64 (depth-1))(h6:ContractX prg 101 [.row 200000 0 out.length 3,.pv (polyPV p),.pv (⟨rV.lo,mid⟩:ARange).pv,.pv (vI (depth-1))] [(200000,(.pure ((out:List ARat).map ARat.cells).flatten))] (.rowT 0 0 z.length 3 [.nilI]) [(0,(.pure ((z:List ARat).map ARat.cells).flatten))])(h7:((z++[mid]):List ARat).length*56≤140737488355328)(h8:ContractX prg 101 [.row 200000 0 ((z++[mid]).length) 3,.pv (polyPV p),.pv (⟨mid,rV.hi⟩:ARange).pv,.pv (vI (depth-1))] [(200000,(.pure (((z++[mid]):List ARat).map ARat.cells).flatten))] (.rowT 0 0 z1.length 3 [(errPV cut1)]) [(0,(.pure ((z1:List ARat).map ARat.cells).flatten))]):ContractX prg 101 [(.row 200000 0 out.length 3),(.pv (polyPV p)),(.pv rV.pv),(eI depth)] [(200000,(.pure ((out:List ARat).map ARat.cells).flatten))] (.rowT 0 0 z1.length 3 [(errPV cut1)]) [(0,(.pure ((z1:List ARat).map ARat.cells).flatten))] :=
 ContractX.ofL Tryz.func101 (by kernel_rfl) (LX.done mixed tabOk (n:=135) (ns:=[1,1,1,1,1,1,1,6,1,1,1]) (tr:=[.ren 200000 1,.reg [],.reg [.none,.none,(.pv (.tup [(vB cle),.nilI]))],.reg [],.dec false,.reg [],.dec false,.reg [.none,(.pv mid.pv)],.reg [.none,.none,.none,.none,.none,.none,.none,(iI (depth-1)),(.callX [(1,200000)] (some (0,40)) (.rowT 0 0 z.length 3 [.nilI]) [(0,(.pure ((z:List ARat).map ARat.cells).flatten))])],.reg [],.auto,.keep [0,1,3,6,12],.any [.none,.none,.none,(.app ((z++[mid]):List ARat).length (((z++[mid]):List ARat).map ARat.cells).flatten),.none,.none,.none,.none,.none,.none,(iI (depth-1)),(.callX [(49,200000)] (some (0,57)) (.rowT 0 0 z1.length 3 [(errPV cut1)]) [(0,(.pure ((z1:List ARat).map ARat.cells).flatten))]),.none,.none,.none,.none],.ren 57 0,.drop [48,12,6],.ord [0]]) rfl (cj h1 (cj (Eq.refl false) (cj h2 (cj (deq_f h3) (cj h4 (cj (bs_sub h5) (cj h6 (cj (o_appR sz_ARat (z:List ARat) ([mid]:List ARat) 56 (Eq.refl (z:List ARat).length) (Eq.refl ([mid]:List ARat).length) h7 rfl) (cj (bs_sub h5) (cj h8 (cj (e2_any0 p rV depth mid z z1 cut1) True.intro))))))))))) (by kernel_rfl))
theorem e3(out p:List ARat)(rV:ARange)(depth:Int)(cle:Bool)(mid:ARat)(z:List ARat)(cut:Int)(h1:Contract prg 98 [(polyPV p),rV.pv] (.tup [(vB cle),.nilI]))(h2:cle=false)(h3:depth≠0)(h4:Contract prg 183 [rV.pv] mid.pv)(h5:InI64 (depth-1))(h6:ContractX prg 101 [.row 200000 0 out.length 3,.pv (polyPV p),.pv (⟨rV.lo,mid⟩:ARange).pv,.pv (vI (depth-1))] [(200000,(.pure ((out:List ARat).map ARat.cells).flatten))] (.rowT 0 0 z.length 3 [(.iface 94 (vI cut))]) [(0,(.pure ((z:List ARat).map ARat.cells).flatten))]):ContractX prg 101 [(.row 200000 0 out.length 3),(.pv (polyPV p)),(.pv rV.pv),(eI depth)] [(200000,(.pure ((out:List ARat).map ARat.cells).flatten))] (.rowT 0 0 0 3 [(.iface 94 (vI cut))]) [(0,(.pure (([]:List ARat).map ARat.cells).flatten))] :=
 ContractX.ofL Tryz.func101 (by kernel_rfl) (LX.done mixed tabOk (n:=132) (ns:=[1,1,1,1,1,1,1]) (tr:=[.ren 200000 1,.reg [],.reg [.none,.none,(.pv (.tup [(vB cle),.nilI]))],.reg [],.dec false,.reg [],.dec false,.reg [.none,(.pv mid.pv)],.reg [.none,.none,.none,.none,.none,.none,.none,(iI (depth-1)),(.callX [(1,200000)] (some (0,40)) (.rowT 0 0 z.length 3 [(.iface 94 (vI cut))]) [(0,(.pure ((z:List ARat).map ARat.cells).flatten))])],.reg [],.auto,.reg [.none,.nil],.adopt 8 0 3,.drop [40,12,6],.ord [0]]) rfl (cj h1 (cj (Eq.refl false) (cj h2 (cj (deq_f h3) (cj h4 (cj (bs_sub h5) (cj h6 True.intro))))))) (by kernel_rfl))
end positive_cutG
namespace positive_choose
@[reducible] noncomputable def fn:Func:=Tryz.f158
noncomputable def atK1:List Itm:=focus [0,2,0,2,0,0,2,0,0] [.code (bodyOf fn)]
def inv1(n k:Int)(t_12:Nat)(site_6:ARat):St:=⟨[(0,(eI n)),(4,(.ptr 4 0)),(6,(.ptr 6 0)),(11,(eI k)),(12,(eI (t_12:Int)))],[(4,(.lit [(eB false),(.pv (.list [])),(.pv (.list []))])),(6,(.lit [(eB site_6.neg),(.pv (wordsPV site_6.num)),(.pv (wordsPV site_6.den))]))]⟩
@[reducible] noncomputable def Loop1(n k:Int)(t_12:Nat)(site_6:ARat)(r:PV):Prop:=L prg fn atK1 (inv1 n k t_12 site_6) r
theorem e0(n k:Int)(of:ARat){r:PV}(h1:Contract prg 73 [(vI 1)] of.pv)(hL:Loop1 n k 0 of r):Contract prg 158 [(vI n),(vI k)] r :=
 Contract.ofL Tryz.func158 (by kernel_rfl) (L.go mixed tabOk (n:=87) (ns:=[1]) (tr:=[.reg [],.reg [(.pv of.pv)],.reg [],.keep [0,4,6,11,12],.ord [4,6]]) (cj h1 True.intro) (by kernel_rfl) hL)
theorem l10(n k:Int)(t_12:Nat)(site_6 mak mul:ARat){r:PV}(h1:(t_12:Int)<k)(h2:InI64 (n-(t_12:Int)))(h3:(t_12+1)<9223372036854775808)(h4:Contract prg 215 [(vI (n-(t_12:Int))),(vI (((t_12+1):Nat):Int))] (.tup [mak.pv,.nilI]))(h5:Contract prg 85 [site_6.pv,mak.pv] mul.pv)(hL:Loop1 n k (t_12+1) mul r):Loop1 n k t_12 site_6 r :=
 L.go mixed tabOk (n:=147) (ns:=[1,1,1,1,1,1]) (tr:=[.auto,.reg [],.dec true,.reg [],.reg [.none,.none,(iI (n-(t_12:Int))),.none,(iI (((t_12+1):Nat):Int)),(.pv (.tup [mak.pv,.nilI]))],.reg [],.auto,.reg [.none,.none,(.pv mul.pv)],.reg [(iI (((t_12+1):Nat):Int))],.keep [0,4,6,11,12],.drop [8]]) (cj (dlt_t h1) (cj (bs_sub h2) (cj (bs_addN h3) (cj h4 (cj h5 (cj (bs_addN h3) True.intro)))))) (by kernel_rfl) hL
theorem l12(n k:Int)(t_12:Nat)(site_6:ARat)(h1:k≤(t_12:Int)):Loop1 n k t_12 site_6 (.tup [site_6.pv,.nilI]) :=
 L.done mixed tabOk (n:=120) (ns:=[1]) (tr:=[.auto,.reg [],.dec false,.reg []]) (cj (dlt_f h1) True.intro) (by kernel_rfl)
end positive_choose
end Go.Proofs.YtbgkjomonebfcaaGreat.Sym.Path
namespace Go.Proofs.YtbgkjomonebfcaaGreat.Sym
open Go Path CInt
set_option linter.unusedVariables false
namespace CPs
theorem choose(n k:Nat)(hn:n≤64)(hk:k≤64):Contract prg 158 [vI (n:Int),vI (k:Int)] (.tup [(mkR (choQ (n:Int) k)).pv,.nilI]):=by
 have loop:∀d t:Nat,k-t=d→t≤k→positive_choose.Loop1 (n:Int) (k:Int) t (mkR (choQ (n:Int) t)) (.tup [(mkR (choQ (n:Int) k)).pv,.nilI]):=by
  intro d
  induction d with
  |zero =>
   intro t hd ht
   have:t=k:=by omega
   subst this
   exact positive_choose.l12 _ _ t _ (by omega)
  |succ d ih =>
   intro t hd htk
   have h1:=ht_choQ (n:=(n:Int)) (by omega) t (by omega)
   have h2:=ht_divInt ((n:Int)-(t:Int)) ((t+1:Nat):Int)
   have h3:wl ((n:Int)-(t:Int))≤2:=wl_le (by omega)
   have h4:wl ((t+1:Nat):Int)≤2:=wl_le (by omega)
   have hm:=QF.Mul (choQ (n:Int) t) (Rat.divInt ((n:Int)-(t:Int)) ((t+1:Nat):Int)) (by omega) (by omega)
   exact positive_choose.l10 _ _ t _ _ _ (by omega) (by unfold InI64;omega) (by omega) (QF.Make _ _ (by unfold InI64;omega) (by unfold InI64;omega) (by omega)) hm (ih (t+1) (by omega) (by omega))
 exact positive_choose.e0 _ _ _ (CFr.Of 1 (by unfold InI64;omega)) (loop k 0 rfl (by omega))
theorem Width(lo hi:Rat)(h1:ht lo≤68719476736)(h2:ht hi≤68719476736)(hle:lo≤hi):Contract prg 156 [(mkG lo hi).pv] (mkR (hi-lo)).pv:=by
 have hc:=CIv.clean (mkG lo hi) (fit_mkG h1 h2)
 rw[loG_mk hle,hiG_mk hle] at hc
 exact interval_Width.e0 _ (mkG lo hi) _ hc (QF.Sub hi lo h2 h1)
theorem bernstein{p:List Rat}{lo hi:Rat}(pc:Piece p lo hi):Contract prg 76 [pq p,(mkG lo hi).pv] (.tup [pq (bernQ p lo (hi-lo)),.nilI]):=by
 have hl:=pc.len
 by_cases h0:p.length=0
 ·have:p=[]:=List.eq_nil_of_length_eq_zero h0
  subst this
  exact positive_bernstein.e0 _ _ rfl
 have g1:=pc.hlo
 have g2:=pc.hhi
 have g3:=ht_sub hi lo
 have f1:Fl 81 [lo,hi-lo]:=fun x hx=>by
  rcases List.mem_cons.1 hx with rfl|hx
  ·omega
  ·rw[List.mem_singleton.1 hx];omega
 have l1:=len_trimL [lo,hi-lo]
 have l1:(trimL [lo,hi-lo]).length≤2:=l1
 have hw:=Width lo hi (by omega) (by omega) pc.le
 have ht:=CPl.Trim [lo,hi-lo] (by simp) f1 (by omega)
 have h5:=cB_le 2 40 81 (by omega) (9-p.length) p.length
 have h6:=cB_40
 rw[show p.length+(9-p.length)=9 from by omega] at h5
 have hc:=CPl.Compose (a:=40) (b:=81) 2 p (trimL [lo,hi-lo]) (chk2_zero (chk_map pc.zp (by omega)) (chk_trimL (by simp))) (by
  intro⟨_,h2,h3⟩
  have:(trimL [lo,hi-lo]).length-1=1:=by omega
  rw[this] at h3;omega) pc.fl (fl_trimL f1) (by omega) (by omega) l1 (by omega) (by omega)
 have hd:=poly_Degree.e0 (p.map mkR) (by rw[lenM];unfold InI64;omega)
 rw[lenM] at hd
 have hq:=sub_coef pc
 have ln:((subL p lo (hi-lo)).map mkR).length=(subL p lo (hi-lo)).length:=lenM _
 have inner:∀(j:Nat) (site:List ARat) (r:PV),j<p.length→site.length≤20→positive_bernstein.Loop1 ((subL p lo (hi-lo)).map mkR) ((p.length:Int)-1) (site++[mkR (berS (subL p lo (hi-lo)) ((p.length:Int)-1) j (j+1))]) (j+1) r →
   ∀d t:Nat,min (j+1) (subL p lo (hi-lo)).length-t=d→t≤min (j+1) (subL p lo (hi-lo)).length→positive_bernstein.Loop2 ((subL p lo (hi-lo)).map mkR) ((p.length:Int)-1) site j j (min (j+1) ((subL p lo (hi-lo)).map mkR).length) t (mkR (berS (subL p lo (hi-lo)) ((p.length:Int)-1) j t)) r:=by
  intro j site r hj hs hL d
  induction d with
  |zero =>
   intro t hd1 ht1
   have e:berS (subL p lo (hi-lo)) ((p.length:Int)-1) j t=berS (subL p lo (hi-lo)) ((p.length:Int)-1) j (j+1):=by
    by_cases hc:j+1≤(subL p lo (hi-lo)).length
    ·rw[show t=j+1 from by omega]
    ·have:=berS_ge (q:=subL p lo (hi-lo)) (n:=(p.length:Int)-1) (j:=j) (m:=t) (by omega) (j+1-t)
     rw[show t+(j+1-t)=j+1 from by omega] at this
     exact this.symm
   rw[e]
   exact positive_bernstein.l24 _ _ site j j _ t _ (by rw[ln];omega) (by rw[List.length_append,List.length_singleton];omega) (by omega) hL
  |succ d ih =>
   intro t hd1 ht1
   have c1:=choose j t (by omega) (by omega)
   have c2:=choose (p.length-1) t (by omega) (by omega)
   rw[show ((p.length-1:Nat):Int)=(p.length:Int)-1 from by omega] at c2
   have b1:=ht_choQ (n:=(j:Int)) (by omega) t (by omega)
   have b2:=ht_choQ (n:=(p.length:Int)-1) (by omega) t (by omega)
   obtain⟨b3,b4⟩:=ht_term (q:=subL p lo (hi-lo)) (n:=(p.length:Int)-1) (H:=110000) (by omega) hq j t (by omega) (by omega)
   have b5:=ht_berS (q:=subL p lo (hi-lo)) (n:=(p.length:Int)-1) (H:=110000) (by omega) hq j (by omega) t (by omega)
   have b6:t*(110000+271)≤65*(110000+271):=Nat.mul_le_mul_right _ (by omega)
   have b7:=hq t
   have hpos:=choQ_pos (n:=(p.length:Int)-1) t (by omega)
   have hdv:=QF.Div (choQ (j:Int) t) (choQ ((p.length:Int)-1) t) (by omega) (by omega) (by grind)
   have hml:=QF.Mul (choQ (j:Int) t/choQ ((p.length:Int)-1) t) (coef (subL p lo (hi-lo)) t) (by omega) (by omega)
   have had:=QF.Add (berS (subL p lo (hi-lo)) ((p.length:Int)-1) j t) _ (by omega) (Nat.le_trans b4 (by omega))
   exact positive_bernstein.l20 _ _ site j j _ t _ _ _ _ _ _ _ (by rw[ln];omega) c1 c2 hdv (getM (coef_get (by omega))) hml had (by omega) (ih (t+1) (by omega) (by omega))
 have outer:∀d j:Nat,p.length-j=d→j≤p.length→positive_bernstein.Loop1 ((subL p lo (hi-lo)).map mkR) ((p.length:Int)-1) ((tabL j (fun j=>berS (subL p lo (hi-lo)) ((p.length:Int)-1) j (j+1))).map mkR) j (.tup [pq (bernQ p lo (hi-lo)),.nilI]):=by
  intro d
  induction d with
  |zero =>
   intro j hd1 hj
   have:j=p.length:=by omega
   subst this
   exact positive_bernstein.l11 _ _ _ _ (by omega)
  |succ d ih =>
   intro j hd1 hj
   have:=ih (j+1) (by omega) (by omega)
   rw[tabL_succ,List.map_append] at this
   exact positive_bernstein.l10 _ _ _ j (by omega) (by omega) (inner j _ _ (by omega) (by rw[lenM,tabL_len];omega) this _ 0 rfl (by omega))
 exact positive_bernstein.e1 _ (mkG lo hi) _ _ _ _ (by rw[lenM];exact h0) hw ht hc hd (by unfold InI64;omega) (outer _ 0 rfl (by omega))
theorem clear{p:List Rat}{lo hi:Rat}(pc:Piece p lo hi):Contract prg 98 [pq p,(mkG lo hi).pv] (.tup [vB (clearB (bernQ p lo (hi-lo))),.nilI]):=by
 have hb:=bernstein pc
 have hf:=fl_bern pc
 have hl:=bern_len p lo (hi-lo)
 have hpl:=pc.len
 generalize bernQ p lo (hi-lo)=b at hb hf hl
 by_cases h0:b.length=0
 ·have:b=[]:=List.eq_nil_of_length_eq_zero h0
  subst this
  exact positive_clear.e0 _ _ _ hb rfl
 have ht:∀i,ht (coef b i)≤1000000:=fun i=>fl_coef hf (by omega) i
 have loop:∀d t:Nat,b.length-t=d→t≤b.length→positive_clear.Loop1 (b.map mkR) t (.tup [vB ((b.drop t).all (fun x=>decide (0≤x))&&(decide (0<coef b 0)&&decide (0<coef b (b.length-1)))),.nilI]):=by
  intro d
  induction d with
  |zero =>
   intro t hd1 ht1
   rw[List.drop_of_length_le (by omega),List.all_nil,Bool.true_and]
   have s1:=QF.Sign (coef b 0) (Nat.le_trans (ht 0) (by omega))
   have s2:=QF.Sign (coef b (b.length-1)) (Nat.le_trans (ht _) (by omega))
   by_cases hp:0<coef b 0
   ·rw[decide_eq_true hp,Bool.true_and]
    have:=positive_clear.l12 (b.map mkR) t _ _ (b.length-1) _ _ (by rw[lenM];omega) (getM (coef_get (by omega))) s1 (cmpR_gt.2 hp) (by rw[lenM];unfold InI64;omega) (by rw[lenM];omega) (getM (coef_get (by omega))) s2
    rwa[show decide (cmpR (coef b (b.length-1)) 0>0)=decide (0<coef b (b.length-1)) from by congr 1;exact propext cmpR_gt] at this
   ·rw[decide_eq_false hp,Bool.false_and]
    exact positive_clear.l13 (b.map mkR) t _ _ (by rw[lenM];omega) (getM (coef_get (by omega))) s1 (cmpR_le.2 (by grind))
  |succ d ih =>
   intro t hd1 ht1
   have hg:=coef_get (p:=b) (i:=t) (by omega)
   have s1:=QF.Sign (coef b t) (Nat.le_trans (ht t) (by omega))
   rw[drop_cons hg,List.all_cons]
   by_cases hp:0≤coef b t
   ·rw[decide_eq_true hp,Bool.true_and]
    exact positive_clear.l11 (b.map mkR) t _ _ (by rw[lenM];omega) (getM hg) s1 (cmpR_ge.2 hp) (by omega) (ih (t+1) (by omega) (by omega))
   ·rw[decide_eq_false hp,Bool.false_and,Bool.false_and]
    exact positive_clear.l10 (b.map mkR) t _ _ (by rw[lenM];omega) (getM hg) s1 (cmpR_lt.2 (by grind))
 have:=positive_clear.e1 _ _ _ hb (by rw[lenM];exact h0) (loop _ 0 rfl (by omega))
 rwa[List.drop_zero] at this
theorem check(p:List ARat)(r:ARange)(hp:FitP 274877906944 p)(hr:FitG 68719476736 r):Contract prg 75 [polyPV p,r.pv] (errPV (errOf (err31 p r))):=by
 have hk:=CPo.Check p hp
 have hv:=CIv.Valid r hr
 unfold err31
 by_cases h:chk p=0
 ·rw[if_pos h]
  rw[h] at hk
  by_cases h0:r.ok=true
  ·rw[if_pos h0];exact positive_check.e1 p r _ hk hv h0
  ·rw[if_neg h0];exact positive_check.e0 p r _ hk hv (by simpa using h0)
 ·rw[if_neg h]
  rw[errOf_ne h] at hk ⊢
  exact positive_check.e2 p r _ hk
theorem EvalQ(p:List Rat)(x:Rat)(hz:lastZ p=false)(hl:p.length≤65){k:Nat}(hf:Fl k p)(hx:ht x≤k)(hk:k≤1073741824):Contract prg 27 [pq p,(mkR x).pv] (.tup [(mkR (evalL p x)).pv,.nilI]):=by
 have:=CPo.Eval (p.map mkR) (mkR x) (chk_map hz hl) (fit_mapk (fl_mono hf hk)) (fit_mkRk (Nat.le_trans hx hk))
 rwa[vals_mkR,mkR_val] at this
theorem decide'{h L:Nat}{p:List Rat}(f:p=[]∨Fine h L p){lo hi:Rat}{k:Nat}(hf:Fl k p)(hk:k≤1048576)(hk1:1≤k)(hlh:lo≤hi)(h1:ht lo≤k)(h2:ht hi≤k):Contract prg 77 [pq p,(mkG lo hi).pv] (.tup [vB (posR p lo hi),.nilI]):=by
 have hl:p.length≤10:=by
  rcases f with rfl|f
  ·simp
  ·have:=f.len;have:=f.hL;omega
 have hz:lastZ p=false:=by
  rcases f with rfl|f
  ·rfl
  ·exact f.zp
 have he:=EvalQ p lo hz (by omega) hf h1 (by omega)
 have hv:=ht_eval p lo k hf h1
 have h4:p.length*(2*k+1)≤10*(2*k+1):=Nat.mul_le_mul_right _ hl
 have hs:=QF.Sign (evalL p lo) (by omega)
 unfold posR
 by_cases h0:0<evalL p lo
 ·rw[decide_eq_true h0,Bool.true_and]
  rcases f with rfl|f
  ·exact absurd h0 Rat.lt_irrefl
  ·exact positive_decide.e1 _ (mkG lo hi) _ _ _ none he hs (cmpR_gt.2 h0) (CSt.Count f lo hi hlh (by omega) (by omega))
 ·rw[decide_eq_false h0,Bool.false_and]
  exact positive_decide.e0 _ (mkG lo hi) _ _ he hs (cmpR_le.2 (by grind))
theorem Bound{k:Nat}{p:List Rat}(hz:lastZ p=false)(h0:p≠[])(hl:p.length≤65)(hf:Fl k p)(hk:k≤1048576):Contract prg 160 [pq p] (.tup [(mkR (bndQ k p)).pv,.nilI]):=by
 have hpos:=List.length_pos_iff.2 h0
 have hck:=CSt.check (p.map mkR) (fitQ hf (by omega))
 rw[chk_map hz hl,if_pos rfl,if_neg (by rw[lenM];omega)] at hck
 have htop:ht (topL p)≤k:=hf _ (List.mem_of_getElem? (coef_get (by omega)))
 have htn:=top_ne hz h0
 have inner:∀(t:Nat) (c:Rat) (r:PV) (out':Rat),p[t]? = some c→∀(f j:Nat),fuelB k≤j+f→j≤fuelB k→out'=dblF f (pow2 j) (1+absR (c/topL p))→sturm_Bound.Loop1 (p.map mkR) (t+1) (mkR out') r→sturm_Bound.Loop2 (p.map mkR) t (mkR (pow2 j)) (mkR (c/topL p)) r:=by
  intro t c r out' hc f
  have htl:=(List.getElem?_eq_some_iff.1 hc).1
  obtain⟨b1,b2,b3⟩:=bnd_term (hf c (List.mem_of_getElem? hc)) htop
  have ho:=CFr.Of 1 (by unfold InI64;omega)
  have ha:=QF.Abs (c/topL p) (by omega)
  have hd:=QF.Add ((1:Int):Rat) (absR (c/topL p)) (by decide) (by rw[ht_abs];omega)
  induction f with
  |zero =>
   intro j h1 h2 h3 hL
   have hp2:=ht_pow2 (k:=j) (n:=2*k+4) (by unfold fuelB at h2;omega)
   have hcmp:=QF.Cmp (pow2 j) (1+absR (c/topL p)) (by omega) (by omega)
   rw[h3] at hL
   exact sturm_Bound.l21 _ t _ _ _ _ _ _ ho ha hd hcmp (cmpR_ge.2 (Rat.le_trans b1 (pow2_mono (by omega)))) (by omega) hL
  |succ f ih =>
   intro j h1 h2 h3 hL
   have hp2:=ht_pow2 (k:=j) (n:=2*k+4) (by unfold fuelB at h2;omega)
   have hcmp:=QF.Cmp (pow2 j) (1+absR (c/topL p)) (by omega) (by omega)
   rw[dblF] at h3
   by_cases hlt:pow2 j<1+absR (c/topL p)
   ·rw[decide_eq_true hlt,cond_true,pow2_add] at h3
    have had:=QF.Add (pow2 j) (pow2 j) (by omega) (by omega)
    rw[pow2_add] at had
    have hj:j<fuelB k:=by
     rcases Nat.lt_or_ge j (fuelB k) with h|h
     ·exact h
     ·have:=pow2_mono h;grind
    exact sturm_Bound.l20 _ t _ _ _ _ _ _ _ ho ha hd hcmp (cmpR_lt.2 hlt) had (ih (j+1) (by omega) (by omega) h3 hL)
   ·rw[decide_eq_false hlt,cond_false] at h3
    rw[h3] at hL
    exact sturm_Bound.l21 _ t _ _ _ _ _ _ ho ha hd hcmp (cmpR_ge.2 (by grind)) (by omega) hL
 have outer:∀d t j:Nat,p.length-t=d→t≤p.length→j≤fuelB k→sturm_Bound.Loop1 (p.map mkR) t (mkR (pow2 j)) (.tup [(mkR (bndF (fuelB k) (topL p) (p.drop t) (pow2 j))).pv,.nilI]):=by
  intro d
  induction d with
  |zero =>
   intro t j h1 h2 h3
   rw[List.drop_of_length_le (by omega)]
   exact sturm_Bound.l12 _ t _ (by rw[lenM];omega)
  |succ d ih =>
   intro t j h1 h2 h3
   have hg:=coef_get (p:=p) (i:=t) (by omega)
   obtain⟨b1,b2,b3⟩:=bnd_term (hf _ (List.mem_of_getElem? hg)) htop
   obtain⟨j1,e1,e2,e3,e4⟩:=dblF_spec b1 (fuelB k) j (by omega)
   rw[drop_cons hg,bndF]
   have hdv:=QF.Div (coef p t) (topL p) (Nat.le_trans (hf _ (List.mem_of_getElem? hg)) (by omega)) (by omega) htn
   refine sturm_Bound.l10 _ t _ _ (p.length-1) _ _ (by rw[lenM];omega) (getM hg) (by rw[lenM];unfold InI64;omega) (by rw[lenM];omega) (getM (coef_get (by omega))) hdv ?_
   refine inner t _ _ _ hg (fuelB k) j (by omega) h3 rfl ?_
   rw[e1]
   exact ih (t+1) j1 (by omega) (by omega) (by omega)
 have:=outer _ 0 0 rfl (by omega) (by omega)
 rw[List.drop_zero] at this
 exact sturm_Bound.e0 _ _ hck (CFr.Of 1 (by unfold InI64;omega)) this
theorem bnd_ht{k:Nat}{p:List Rat}(h0:p≠[])(hf:Fl k p):0≤bndQ k p∧ht (bndQ k p)≤2*k+4:=by
 have hpos:=List.length_pos_iff.2 h0
 have htop:ht (topL p)≤k:=hf _ (List.mem_of_getElem? (coef_get (by omega)))
 obtain⟨j,e1,e2,e3,e4⟩:=bndF_spec htop p 0 hf (Nat.zero_le _)
 unfold bndQ
 rw[e1]
 refine⟨?_,ht_pow2 (by unfold fuelB at e3;omega)⟩
 exact Rat.le_trans (b:=pow2 0) (by decide) (pow2_mono (Nat.zero_le _))
theorem All{h L k:Nat}{p:List Rat}(f:Fine h L p)(hf:Fl k p)(hk:k≤1048576):Contract prg 79 [pq p] (.tup [vI (allR p (bndQ k p)),.nilI]):=by
 have hl:=f.len
 have hL:=f.hL
 obtain⟨b1,b2⟩:=bnd_ht f.ne hf
 have hb:=Bound f.zp f.ne (by omega) hf hk
 have hn:=QF.Neg (bndQ k p) (by omega)
 have hng:=ht_neg (bndQ k p)
 exact sturm_All.e0 _ _ _ _ none hb hn (CSt.Count f (-bndQ k p) (bndQ k p) (by grind) (by omega) (by omega))
theorem Everywhere{h L k:Nat}{p:List Rat}(f:p=[]∨Fine h L p)(hf:Fl k p)(hk:k≤1048576)(hk1:1≤k):Contract prg 20 [pq p] (.tup [vB (everyB k p),.nilI]):=by
 have hl:p.length≤10:=by
  rcases f with rfl|f
  ·simp
  ·have:=f.len;have:=f.hL;omega
 have hz:lastZ p=false:=by
  rcases f with rfl|f
  ·rfl
  ·exact f.zp
 have hck:=CPo.Check (p.map mkR) (fitQ hf (by omega))
 rw[chk_map hz (by omega)] at hck
 have h0':ht (0:Rat)≤k:=by rw[ht_zero];exact hk1
 have he:=EvalQ p 0 hz (by omega) hf h0' (by omega)
 have hv:=ht_eval p 0 k hf h0'
 have h4:p.length*(2*k+1)≤10*(2*k+1):=Nat.mul_le_mul_right _ hl
 have hs:=QF.Sign (evalL p 0) (by omega)
 unfold everyB
 by_cases h0:0<evalL p 0
 ·rw[decide_eq_true h0,Bool.true_and]
  rcases f with rfl|f
  ·exact absurd h0 Rat.lt_irrefl
  ·exact positive_Everywhere.e1 _ _ _ _ none hck he hs (cmpR_gt.2 h0) (All f hf hk)
 ·rw[decide_eq_false h0,Bool.false_and]
  exact positive_Everywhere.e0 _ _ _ hck he hs (cmpR_le.2 (by grind))
end CPs
end Go.Proofs.YtbgkjomonebfcaaGreat.Sym
namespace Go.Proofs.YtbgkjomonebfcaaGreat.Sym
open Go Path CInt
set_option linter.unusedVariables false
def ptQ(a w:Rat)(k j:Nat):Rat:=a+w*Rat.divInt (j:Int) ((2^k:Nat):Int)
def cutQ(p:List Rat)(a w:Rat):Nat→Nat→Nat→Option (List Rat)
 |d,k,j=>bif clearB (bernQ p (ptQ a w k j) (ptQ a w k (j+1)-ptQ a w k j)) then some [] else match d with
  |0=>none
  |d+1=>match cutQ p a w d (k+1) (2*j) with
   |none=>none
   |some l=>match cutQ p a w d (k+1) (2*j+1) with
    |none=>none
    |some m=>some (l++ptQ a w (k+1) (2*j+1)::m)
theorem two_ne(k:Nat):(((2^k:Nat):Int):Rat)≠0:=fun e=>by
 have:=Rat.intCast_inj.1 (show (((2^k:Nat):Int):Rat)=((0:Int):Rat) from e)
 have:=Nat.pow_pos (n:=k) (show 0<2 by omega)
 omega
theorem pt_even(a w:Rat)(k j:Nat):ptQ a w (k+1) (2*j)=ptQ a w k j:=by
 unfold ptQ
 congr 2
 have h:=two_ne k
 have h2:=two_ne (k+1)
 rw[Rat.divInt_eq_div,Rat.divInt_eq_div,Rat.div_def,Rat.div_def]
 have e:(((2^(k+1):Nat):Int):Rat)=(((2^k:Nat):Int):Rat)*2:=by
  rw[show (2:Rat)=((2:Int):Rat) from rfl,←Rat.intCast_mul];congr 1
 have e2:((2*j:Nat):Int)=(j:Int)*2:=by omega
 rw[e,e2,Rat.intCast_mul,show(((2:Int)):Rat)=2 from rfl,Rat.inv_mul_rev]
 have i2:(2:Rat)*2⁻¹=1:=by decide +kernel
 generalize ((((2^k:Nat):Int):Rat))⁻¹=u
 generalize ((j:Int):Rat)=v
 have:v*2*(2⁻¹*u)=v*(2*2⁻¹)*u:=by grind
 rw[this,i2];grind
theorem pt_odd(a w:Rat)(k j:Nat):Rat.divInt 1 2*(ptQ a w k j+ptQ a w k (j+1))=ptQ a w (k+1) (2*j+1):=by
 rw[←pt_even a w k j,←pt_even a w k (j+1)]
 unfold ptQ
 rw[Rat.divInt_eq_div,Rat.divInt_eq_div,Rat.divInt_eq_div,Rat.divInt_eq_div,Rat.div_def,Rat.div_def,Rat.div_def,Rat.div_def]
 generalize ((((2^(k+1):Nat):Int):Rat))⁻¹=u
 have e1:((2*j:Nat):Int)=2*(j:Int):=by omega
 have e2:((2*(j+1):Nat):Int)=2*(j:Int)+2:=by omega
 have e3:((2*j+1:Nat):Int)=2*(j:Int)+1:=by omega
 rw[e1,e2,e3,Rat.intCast_add,Rat.intCast_add,Rat.intCast_mul]
 generalize ((j:Int):Rat)=v
 have i2:((1:Int):Rat)*(((2:Int):Rat))⁻¹=1/2:=by decide +kernel
 rw[i2,show((2:Int):Rat)=2 from rfl,show((1:Int):Rat)=1 from rfl]
 grind
structure Base (p:List Rat) (a w:Rat):Prop where
 zp:lastZ p=false
 len:p.length≤9
 fl:Fl 40 p
 ha:ht a≤10
 hw:ht w≤20
 w0:0≤w
theorem pt_ht{p:List Rat}{a w:Rat}(b:Base p a w){k j:Nat}(hk:k≤10)(hj:j≤2^k):ht (ptQ a w k j)≤33:=by
 have h1:=b.ha
 have h2:=b.hw
 have h3:=ht_divInt (j:Int) ((2^k:Nat):Int)
 have h5:2^k≤2^10:=Nat.pow_le_pow_right (by omega) hk
 have h6:wl (j:Int)≤1:=wl_le (by omega)
 have h7:wl ((2^k:Nat):Int)≤1:=wl_le (by omega)
 have h8:=ht_mul w (Rat.divInt (j:Int) ((2^k:Nat):Int))
 have h9:=ht_add a (w*Rat.divInt (j:Int) ((2^k:Nat):Int))
 unfold ptQ
 omega
theorem pt_le{w:Rat}(a:Rat)(h:0≤w)(k j:Nat):ptQ a w k j≤ptQ a w k (j+1):=by
 unfold ptQ
 have h2:Rat.divInt (j:Int) ((2^k:Nat):Int)≤Rat.divInt ((j+1:Nat):Int) ((2^k:Nat):Int):=by
  rw[Rat.divInt_eq_div,Rat.divInt_eq_div,Rat.div_def,Rat.div_def]
  refine Rat.mul_le_mul_of_nonneg_right (Rat.intCast_le_intCast.2 (by omega)) (Rat.le_of_lt (Rat.inv_pos.2 ?_))
  have:=Nat.pow_pos (n:=k) (show 0<2 by omega)
  exact Rat.intCast_lt_intCast.2 (show (0:Int)<_ by omega)
 have:=Rat.mul_le_mul_of_nonneg_left h2 h
 grind
theorem pt_piece{p:List Rat}{a w:Rat}(b:Base p a w){k j:Nat}(hk:k≤10)(hj:j<2^k):Piece p (ptQ a w k j) (ptQ a w k (j+1)):=by
 have h1:=pt_ht b hk (show j≤2^k by omega)
 have h2:=pt_ht b hk (show j+1≤2^k by omega)
 exact⟨b.zp,b.len,b.fl,by omega,by omega,pt_le a b.w0 k j⟩
theorem cutQ_len{p:List Rat}{a w:Rat} : ∀(d k j:Nat) (l:List Rat),cutQ p a w d k j=some l→l.length+1≤2^d
 |d,k,j,l,h=>by
  unfold cutQ at h
  cases hc:clearB (bernQ p (ptQ a w k j) (ptQ a w k (j+1)-ptQ a w k j)) with
  |true =>
   rw[hc,cond_true] at h
   injection h with h;subst h
   exact Nat.pow_pos (by omega)
  |false =>
   rw[hc,cond_false] at h
   match d,h with
   |d+1,h =>
    simp only at h
    cases h1:cutQ p a w d (k+1) (2*j) with
    |none=>rw[h1] at h;cases h
    |some l1 =>
     cases h2:cutQ p a w d (k+1) (2*j+1) with
     |none=>rw[h1,h2] at h;cases h
     |some l2 =>
      rw[h1,h2] at h
      injection h with h;subst h
      have:=cutQ_len d _ _ _ h1
      have:=cutQ_len d _ _ _ h2
      rw[List.length_append,List.length_cons,Nat.pow_succ]
      omega
namespace CPc
theorem Mid(lo hi:Rat)(h1:ht lo≤1000)(h2:ht hi≤1000)(hle:lo≤hi):Contract prg 183 [(mkG lo hi).pv] (mkR (Rat.divInt 1 2*(lo+hi))).pv:=by
 have hc:=CIv.clean (mkG lo hi) (fit_mkG (Nat.le_trans h1 (by omega)) (Nat.le_trans h2 (by omega)))
 rw[loG_mk hle,hiG_mk hle] at hc
 have hh:=interval_half.e0 _ none (QF.Make 1 2 (by unfold InI64;omega) (by unfold InI64;omega) (by omega))
 have h3:=ht_add lo hi
 have h4:ht (Rat.divInt 1 2)≤1:=by decide
 exact interval_Mid.e0 _ (mkG lo hi) _ _ _ hc hh (QF.Add lo hi (by omega) (by omega)) (QF.Mul _ _ (by omega) (by omega))
def cutZ(out:List ARat):Option (List Rat)→List ARat
 |some l=>out++l.map mkR
 |none=>[]
def cutE:Option (List Rat)→Option Int
 |some _=>none
 |none=>some 15
theorem cutG{p:List Rat}{a w:Rat}(b:Base p a w):∀(d k j:Nat) (out:List ARat),k+d≤9→j<2^k→out.length+2^d≤1000000 →
  ContractX prg 101 [(.row 200000 0 out.length 3),(.pv (pq p)),(.pv (mkG (ptQ a w k j) (ptQ a w k (j+1))).pv),(eI (d:Int))] [(200000,(.pure ((out:List ARat).map ARat.cells).flatten))] (.rowT 0 0 (cutZ out (cutQ p a w d k j)).length 3 [errPV (cutE (cutQ p a w d k j))]) [(0,(.pure ((cutZ out (cutQ p a w d k j):List ARat).map ARat.cells).flatten))]
 |d,k,j,out,hkd,hj,hlen=>by
  have pc:=pt_piece b (k:=k) (by omega) hj
  have hcl:=CPs.clear pc
  unfold cutQ
  cases hc:clearB (bernQ p (ptQ a w k j) (ptQ a w k (j+1)-ptQ a w k j)) with
  |true =>
   rw[hc] at hcl
   have:=positive_cutG.e0 out _ (mkG (ptQ a w k j) (ptQ a w k (j+1))) (d:Int) _ hcl rfl
   rw[cond_true]
   show ContractX prg _ _ _ (.rowT 0 0 (out++[].map mkR).length 3 [errPV none]) [(0,.pure (((out++[].map mkR:List ARat)).map ARat.cells).flatten)]
   rw[List.map_nil,List.append_nil]
   exact this
  |false =>
   rw[hc] at hcl
   rw[cond_false]
   match d with
   |0=>exact positive_cutG.e1 out _ (mkG (ptQ a w k j) (ptQ a w k (j+1))) _ _ hcl rfl rfl
   |d+1 =>
    have hj1:2*j<2^(k+1):=by rw[Nat.pow_succ];omega
    have hj2:2*j+1<2^(k+1):=by rw[Nat.pow_succ];omega
    have hp2:2^(d+1)=2^d+2^d:=by rw[Nat.pow_succ];omega
    have hpd:=Nat.pow_pos (n:=d) (show 0<2 by omega)
    have hm:=Mid (ptQ a w k j) (ptQ a w k (j+1)) (by have:=pc.hlo;omega) (by have:=pc.hhi;omega) pc.le
    rw[pt_odd] at hm
    have i1:=cutG b d (k+1) (2*j) out (by omega) hj1 (by omega)
    rw[pt_even] at i1
    have hd:((d+1:Nat):Int)≠0:=by omega
    have hI:InI64 (((d+1:Nat):Int)-1):=by
     have:d≤9:=by omega
     unfold InI64;omega
    have e1:((d+1:Nat):Int)-1=(d:Int):=by omega
    simp only
    cases h1:cutQ p a w d (k+1) (2*j) with
    |none =>
     rw[h1] at i1
     exact positive_cutG.e3 out _ (mkG (ptQ a w k j) (ptQ a w k (j+1))) _ _ _ [] 15 hcl rfl hd hm hI (by rw[e1];exact i1)
    |some l =>
     rw[h1] at i1
     have hl:=cutQ_len _ _ _ _ h1
     have i2:=cutG b d (k+1) (2*j+1) (out++l.map mkR++[mkR (ptQ a w (k+1) (2*j+1))]) (by omega) hj2 (by
      rw[List.length_append,List.length_append,lenM,List.length_singleton];omega)
     rw[show 2*j+1+1=2*(j+1) from by omega,pt_even] at i2
     have:=positive_cutG.e2 out _ (mkG (ptQ a w k j) (ptQ a w k (j+1))) _ _ _ (out++l.map mkR) _ _ hcl rfl hd hm hI (by rw[e1];exact i1) (by rw[List.length_append,List.length_append,lenM,List.length_singleton];omega) (by rw[e1];exact i2)
     cases h2:cutQ p a w d (k+1) (2*j+1) with
     |none=>rw[h2] at this;exact this
     |some m =>
      rw[h2] at this
      have e:cutZ (out++l.map mkR++[mkR (ptQ a w (k+1) (2*j+1))]) (some m)=cutZ out (some (l++ptQ a w (k+1) (2*j+1)::m)):=by
       show out++l.map mkR++[mkR _]++m.map mkR=out++(l++_::m).map mkR
       simp
      rw[e] at this
      exact this
theorem cutN{p:List Rat}{a w:Rat}(b:Base p a w)(d k j:Nat)(hkd:k+d≤9)(hj:j<2^k) :
  ContractX prg 101 [(.pv .nilS),(.pv (pq p)),(.pv (mkG (ptQ a w k j) (ptQ a w k (j+1))).pv),(eI (d:Int))] [] (.rowT 0 0 (cutZ [] (cutQ p a w d k j)).length 3 [errPV (cutE (cutQ p a w d k j))]) [(0,(.pure ((cutZ [] (cutQ p a w d k j):List ARat).map ARat.cells).flatten))]:=by
 have pc:=pt_piece b (k:=k) (by omega) hj
 have hcl:=CPs.clear pc
 unfold cutQ
 cases hc:clearB (bernQ p (ptQ a w k j) (ptQ a w k (j+1)-ptQ a w k j)) with
 |true =>
  rw[hc] at hcl
  exact positive_cutN.e0 _ (mkG (ptQ a w k j) (ptQ a w k (j+1))) (d:Int) _ hcl rfl
 |false =>
  rw[hc] at hcl
  rw[cond_false]
  match d,hkd with
  |0,_=>exact positive_cutN.e1 _ (mkG (ptQ a w k j) (ptQ a w k (j+1))) _ _ hcl rfl rfl
  |d+1,hkd =>
   have hj1:2*j<2^(k+1):=by rw[Nat.pow_succ];omega
   have hj2:2*j+1<2^(k+1):=by rw[Nat.pow_succ];omega
   have hp9:2^d≤2^9:=Nat.pow_le_pow_right (by omega) (by omega)
   have hm:=Mid (ptQ a w k j) (ptQ a w k (j+1)) (by have:=pc.hlo;omega) (by have:=pc.hhi;omega) pc.le
   rw[pt_odd] at hm
   have i1:=cutG b d (k+1) (2*j) [] (by omega) hj1 (by simp;omega)
   rw[pt_even] at i1
   have hd:((d+1:Nat):Int)≠0:=by omega
   have hI:InI64 (((d+1:Nat):Int)-1):=by
    have:d≤9:=by omega
    unfold InI64;omega
   have e1:((d+1:Nat):Int)-1=(d:Int):=by omega
   simp only
   cases h1:cutQ p a w d (k+1) (2*j) with
   |none =>
    rw[h1] at i1
    exact positive_cutN.e3 _ (mkG (ptQ a w k j) (ptQ a w k (j+1))) _ _ _ [] 15 hcl rfl hd hm hI (by rw[e1];exact i1)
   |some l =>
    rw[h1] at i1
    have hl:=cutQ_len _ _ _ _ h1
    have i2:=cutG b d (k+1) (2*j+1) (l.map mkR++[mkR (ptQ a w (k+1) (2*j+1))]) (by omega) hj2 (by
     rw[List.length_append,lenM,List.length_singleton];omega)
    rw[show 2*j+1+1=2*(j+1) from by omega,pt_even] at i2
    have:=positive_cutN.e2 _ (mkG (ptQ a w k j) (ptQ a w k (j+1))) _ _ _ (l.map mkR) _ _ hcl rfl hd hm hI (by rw[e1];exact i1) (by rw[List.length_append,lenM,List.length_singleton];omega) (by rw[e1];exact i2)
    cases h2:cutQ p a w d (k+1) (2*j+1) with
    |none=>rw[h2] at this;exact this
    |some m =>
     rw[h2] at this
     have e:cutZ (l.map mkR++[mkR (ptQ a w (k+1) (2*j+1))]) (some m)=cutZ [] (some (l++ptQ a w (k+1) (2*j+1)::m)):=by
      show l.map mkR++[mkR _]++m.map mkR=[]++(l++_::m).map mkR
      simp
     rw[e] at this
     exact this
end CPc
end Go.Proofs.YtbgkjomonebfcaaGreat.Sym
namespace Go.Proofs.YtbgkjomonebfcaaGreat.Sym
open Go Path CInt
set_option linter.unusedVariables false
namespace CPt
theorem Error(p:List ARat)(r:ARange)(hp:FitP 274877906944 p)(hr:FitG 68719476736 r):Contract prg 80 [polyPV p,r.pv] (vI (err31 p r)):=by
 have hk:=CRe.Check p hp
 have hv:=CJv.Valid r hr
 unfold err31
 by_cases h:chk p=0
 ·rw[if_pos h]
  by_cases h0:r.ok=true
  ·rw[if_pos h0];exact linkworkref31_Error.e2 p r _ _ hk h hv h0
  ·rw[if_neg h0];exact linkworkref31_Error.e1 p r _ _ hk h hv (by simpa using h0)
 ·rw[if_neg h];exact linkworkref31_Error.e0 p r _ hk h
end CPt
end Go.Proofs.YtbgkjomonebfcaaGreat.Sym










namespace Go.Proofs.YtbgkjomonebfcaaGreat.Sym
open Go Path CInt
set_option linter.unusedVariables false
namespace CCa
theorem AddQ{a b:Nat}(p q:List Rat)(zp:lastZ p=false)(zq:lastZ q=false)(lp:p.length≤65)(lq:q.length≤65)(hp:Fl a p)(hq:Fl b q)(ha:1≤a)(hb:1≤b)(hk:a+b+2≤68719476736):Contract prg 33 [pq p,pq q] (.tup [pq (trimL (addL p q)),.nilI]):=by
 have hck:=CPl.checks2 (p.map mkR) (q.map mkR) (fitQ hp (by omega)) (fitQ hq (by omega))
 rw[chk2_zero (chk_map zp lp) (chk_map zq lq)] at hck
 have h:=CPl.plus (d:=1) p q ((1:Int):Rat) (by omega) (by omega) hp hq (by decide) ha hb (by omega)
 rw[show ((1:Int):Rat)=1 from rfl,smulL_one] at h
 exact poly_Add.e0 _ _ _ _ hck (CFr.Of 1 (by unfold InI64;omega)) h
theorem ScaleQ{a d:Nat}(p:List Rat)(c:Rat)(zp:lastZ p=false)(lp:p.length≤65)(hp:Fl a p)(hc:ht c≤d)(ha:1≤a)(hk:a+d+2≤68719476736):Contract prg 72 [pq p,(mkR c).pv] (.tup [pq (trimL (smulL c p)),.nilI]):=by
 have hck:=CPo.Check (p.map mkR) (fitQ hp (by omega))
 rw[chk_map zp lp] at hck
 exact poly_Scale.e0 _ _ _ hck (CPl.plus (a:=1) (d:=d) [] p c (by simp) (by omega) (fun x hx=>by cases hx) hp hc (by omega) ha (by omega))
end CCa
end Go.Proofs.YtbgkjomonebfcaaGreat.Sym
namespace Go.Proofs.YtbgkjomonebfcaaGreat.Sym.Path
open Go
set_option maxRecDepth 20000
set_option linter.unusedVariables false
namespace linkworklaw31_PositiveJoins
@[reducible] noncomputable def fn:Func:=Tryz.f5
noncomputable def atK1:List Itm:=focus [0,2,0,0,2,1,2,0,2,0,2,0,2,0,2,0,2,0,2,0,2,0,0,2,0,0] [.code (bodyOf fn)]
def inv1(dec dec2 dec4 dec6 eve:Bool)(t_98:Nat)(dec1 dec3 mul1 add1 dec5 dec7 eve1:Option Int):St:=⟨[(7,(eB dec)),(9,(eB dec2)),(15,(eB dec4)),(17,(eB dec6)),(19,(eB eve)),(96,(.row 96 0 7 1)),(97,(eI 7)),(98,(eI (t_98:Int)))],[(96,(.pure (([dec1,dec3,mul1,add1,dec5,dec7,eve1]:List (Option Int)).map errCell).flatten))]⟩
@[reducible] noncomputable def Loop1(dec dec2 dec4 dec6 eve:Bool)(t_98:Nat)(dec1 dec3 mul1 add1 dec5 dec7 eve1:Option Int)(r:PV):Prop:=L prg fn atK1 (inv1 dec dec2 dec4 dec6 eve t_98 dec1 dec3 mul1 add1 dec5 dec7 eve1) r
theorem e0(p q:List ARat)(rV:ARange)(val awa:Bool)(h1:Contract prg 26 [(polyPV p),rV.pv] (vB val))(h2:val=false)(h3:Contract prg 17 [] (vB awa)):Contract prg 5 [(polyPV p),(polyPV q),rV.pv] (vB awa) :=
 Contract.ofL Tryz.func5 (by kernel_rfl) (L.done mixed tabOk (n:=84) (ns:=[1,1,1,1,1,1,1,1,1,1,1,1,1,1,1]) (tr:=[.reg [],.reg [.none,.none,(.pv (vB val)),.none,.none,.skip,.skip,.skip,.skip,(.dec true),.none,.skip,.skip,.skip,.none,.none,.skip,.skip,.skip,.none,.none,.skip,.skip],.auto,.reg [(.pv (vB awa))]]) (cj h1 (cj (bnot_t h2) (cj (bnot_t h2) (cj (bnot_t h2) (cj (bnot_t h2) (cj (bnot_t h2) (cj (Eq.refl true) (cj (Eq.refl true) (cj (Eq.refl true) (cj (Eq.refl true) (cj (Eq.refl true) (cj (Eq.refl true) (cj (Eq.refl true) (cj (Eq.refl true) (cj h3 True.intro))))))))))))))) (by kernel_rfl))
theorem e1(p q:List ARat)(rV:ARange)(val val1 awa:Bool)(h1:Contract prg 26 [(polyPV p),rV.pv] (vB val))(h2:val=true)(h3:Contract prg 26 [(polyPV q),rV.pv] (vB val1))(h4:val1=false)(h5:Contract prg 17 [] (vB awa)):Contract prg 5 [(polyPV p),(polyPV q),rV.pv] (vB awa) :=
 Contract.ofL Tryz.func5 (by kernel_rfl) (L.done mixed tabOk (n:=84) (ns:=[1,1,1,1,1,1,1,1,1,1,1,1,1,1,1,1,1]) (tr:=[.reg [],.reg [.none,.none,(.pv (vB val)),.none,.none,.none,.none,(.pv (vB val1)),.none,(.dec false),.none,.skip,.skip,.skip,(.dec true),.none,.skip,.skip,.skip,.none,.none,.skip,.skip],.auto,.reg [(.pv (vB awa))]]) (cj h1 (cj (bnot_f h2) (cj (bnot_f h2) (cj (bnot_f h2) (cj h3 (cj (bnot_f h2) (cj (bnot_f h2) (cj (bnot_t h4) (cj (bnot_t h4) (cj (bnot_t h4) (cj (bnot_t h4) (cj (Eq.refl true) (cj (Eq.refl true) (cj (Eq.refl true) (cj (Eq.refl true) (cj (Eq.refl true) (cj h5 True.intro))))))))))))))))) (by kernel_rfl))
theorem e2(p q:List ARat)(rV:ARange)(val val1 awa:Bool)(h1:Contract prg 26 [(polyPV p),rV.pv] (vB val))(h2:val=true)(h3:Contract prg 26 [(polyPV q),rV.pv] (vB val1))(h4:val1=true)(h5:4<p.length)(h6:Contract prg 17 [] (vB awa)):Contract prg 5 [(polyPV p),(polyPV q),rV.pv] (vB awa) :=
 Contract.ofL Tryz.func5 (by kernel_rfl) (L.done mixed tabOk (n:=84) (ns:=[1,1,1,1,1,1,1,1,1,1,1,1,1,1,1,1,1,1,1]) (tr:=[.reg [],.reg [.none,.none,(.pv (vB val)),.none,.none,.none,.none,(.pv (vB val1)),.none,(.dec false),.none,.none,(iI (p.length:Int)),.none,(.dec false),.none,.skip,.skip,.skip,(.dec true),.none,.skip,.skip],.auto,.reg [(.pv (vB awa))]]) (cj h1 (cj (bnot_f h2) (cj (bnot_f h2) (cj (bnot_f h2) (cj h3 (cj (bnot_f h2) (cj (bnot_f h2) (cj (bnot_f h4) (cj (bnot_f h4) (cj (o_len ARat.cells p) (cj (bnot_f h4) (cj (bnot_f h4) (cj (dltN_t h5) (cj (dltN_t h5) (cj (dltN_t h5) (cj (dltN_t h5) (cj (Eq.refl true) (cj (Eq.refl true) (cj h6 True.intro))))))))))))))))))) (by kernel_rfl))
theorem e3(p q:List ARat)(rV:ARange)(val val1 awa:Bool)(h1:Contract prg 26 [(polyPV p),rV.pv] (vB val))(h2:val=true)(h3:Contract prg 26 [(polyPV q),rV.pv] (vB val1))(h4:val1=true)(h5:p.length≤4)(h6:4<q.length)(h7:Contract prg 17 [] (vB awa)):Contract prg 5 [(polyPV p),(polyPV q),rV.pv] (vB awa) :=
 Contract.ofL Tryz.func5 (by kernel_rfl) (L.done mixed tabOk (n:=84) (ns:=[1,1,1,1,1,1,1,1,1,1,1,1,1,1,1,1,1,1,1,1,1]) (tr:=[.reg [],.reg [.none,.none,(.pv (vB val)),.none,.none,.none,.none,(.pv (vB val1)),.none,(.dec false),.none,.none,(iI (p.length:Int)),.none,(.dec false),.none,.none,(iI (q.length:Int)),.none,(.dec false),.none,.skip,.skip,(.dec true)],.auto,.reg [(.pv (vB awa))]]) (cj h1 (cj (bnot_f h2) (cj (bnot_f h2) (cj (bnot_f h2) (cj h3 (cj (bnot_f h2) (cj (bnot_f h2) (cj (bnot_f h4) (cj (bnot_f h4) (cj (o_len ARat.cells p) (cj (bnot_f h4) (cj (bnot_f h4) (cj (dltN_f h5) (cj (dltN_f h5) (cj (o_len ARat.cells q) (cj (dltN_f h5) (cj (dltN_f h5) (cj (dltN_t h6) (cj (dltN_t h6) (cj (dltN_t h6) (cj h7 True.intro))))))))))))))))))))) (by kernel_rfl))
theorem e5(p q:List ARat)(rV:ARange)(val val1 awa dec:Bool)(dec1:Option Int)(dec2:Bool)(dec3:Option Int)(mul:List ARat)(mul1:Option Int)(add:List ARat)(add1:Option Int)(dec4:Bool)(dec5:Option Int)(dec6:Bool)(dec7:Option Int)(eve:Bool)(eve1:Option Int){r:PV}(h1:Contract prg 26 [(polyPV p),rV.pv] (vB val))(h2:val=true)(h3:Contract prg 26 [(polyPV q),rV.pv] (vB val1))(h4:val1=true)(h5:p.length≤4)(h6:q.length≤4)(h7:Contract prg 17 [] (vB awa))(h8:awa=true)(h9:Contract prg 19 [(polyPV p),rV.pv] (.tup [(vB dec),(errPV dec1)]))(h10:Contract prg 19 [(polyPV q),rV.pv] (.tup [(vB dec2),(errPV dec3)]))(h11:Contract prg 32 [(polyPV p),(polyPV q)] (.tup [(polyPV mul),(errPV mul1)]))(h12:Contract prg 33 [(polyPV p),(polyPV q)] (.tup [(polyPV add),(errPV add1)]))(h13:Contract prg 19 [(polyPV mul),rV.pv] (.tup [(vB dec4),(errPV dec5)]))(h14:Contract prg 19 [(polyPV add),rV.pv] (.tup [(vB dec6),(errPV dec7)]))(h15:Contract prg 20 [(polyPV p)] (.tup [(vB eve),(errPV eve1)]))(hL:Loop1 dec dec2 dec4 dec6 eve 0 dec1 dec3 mul1 add1 dec5 dec7 eve1 r):Contract prg 5 [(polyPV p),(polyPV q),rV.pv] r :=
 Contract.ofL Tryz.func5 (by kernel_rfl) (L.go mixed tabOk (n:=138) (ns:=[1,1,1,1,1,1,1,1,1,1,1,1,1,1,1,1,1,1,1,1,1,1,1,1,1,1,1,1,1,1]) (tr:=[.reg [],.reg [.none,.none,(.pv (vB val)),.none,.none,.none,.none,(.pv (vB val1)),.none,(.dec false),.none,.none,(iI (p.length:Int)),.none,(.dec false),.none,.none,(iI (q.length:Int)),.none,(.dec false),.none,(.pv (vB awa)),.none,(.dec false)],.dec false,.reg [.none,.none,(.pv (.tup [(vB dec),(errPV dec1)]))],.reg [.none,.none,(.pv (.tup [(vB dec2),(errPV dec3)]))],.reg [.none,.none,(.pv (.tup [(polyPV mul),(errPV mul1)]))],.reg [.none,.none,(.pv (.tup [(polyPV add),(errPV add1)]))],.reg [.none,.none,(.pv (.tup [(vB dec4),(errPV dec5)]))],.reg [.none,.none,(.pv (.tup [(vB dec6),(errPV dec7)]))],.reg [.none,(.pv (.tup [(vB eve),(errPV eve1)]))],.reg [.none,.none,.none,.none,.none,.none,.none,(.app 7 (([dec1,dec3,mul1,add1,dec5,dec7,eve1]:List (Option Int)).map errCell).flatten)],.keep [7,9,15,17,19,96,97,98],.drop [5]]) (cj h1 (cj (bnot_f h2) (cj (bnot_f h2) (cj (bnot_f h2) (cj h3 (cj (bnot_f h2) (cj (bnot_f h2) (cj (bnot_f h4) (cj (bnot_f h4) (cj (o_len ARat.cells p) (cj (bnot_f h4) (cj (bnot_f h4) (cj (dltN_f h5) (cj (dltN_f h5) (cj (o_len ARat.cells q) (cj (dltN_f h5) (cj (dltN_f h5) (cj (dltN_f h6) (cj h7 (cj (dltN_f h6) (cj (dltN_f h6) (cj (bnot_f h8) (cj h9 (cj h10 (cj h11 (cj h12 (cj h13 (cj h14 (cj h15 (cj (o_fillE [dec1,dec3,mul1,add1,dec5,dec7,eve1]) True.intro)))))))))))))))))))))))))))))) (by kernel_rfl) hL)
theorem l10(dec dec2 dec4 dec6 eve:Bool)(t_98:Nat)(dec1 dec3 mul1 add1 dec5 dec7 eve1:Option Int){r:PV}(h1:t_98<7)(h2:[dec1,dec3,mul1,add1,dec5,dec7,eve1][t_98]? = some none)(h3:(t_98+1)<9223372036854775808)(hL:Loop1 dec dec2 dec4 dec6 eve (t_98+1) dec1 dec3 mul1 add1 dec5 dec7 eve1 r):Loop1 dec dec2 dec4 dec6 eve t_98 dec1 dec3 mul1 add1 dec5 dec7 eve1 r :=
 L.go mixed tabOk (n:=186) (ns:=[1,2,1,1]) (tr:=[.auto,.reg [],.dec true,.reg [(.nat t_98),(.ev (.pv .nilI))],.reg [],.auto,.reg [(iI (((t_98+1):Nat):Int))],.keep [7,9,15,17,19,96,97,98]]) (cj (dltN_t h1) (cj (cj (Eq.refl (((t_98:Nat):Int):Int)) h1) (cj (o_get (enc:=errCell) (f:=fun a=>(errPV a)) (fun _=>rfl) h2) (cj (bs_addN h3) True.intro)))) (by kernel_rfl) hL
theorem l11(dec dec2 dec4 dec6 eve:Bool)(t_98:Nat)(dec1 dec3 mul1 add1 dec5 dec7 eve1:Option Int)(h1:7≤t_98)(h2:dec=false)(h3:eve=false):Loop1 dec dec2 dec4 dec6 eve t_98 dec1 dec3 mul1 add1 dec5 dec7 eve1 (vB true) :=
 L.done mixed tabOk (n:=171) (ns:=[1,1,1,1,1,1,1,1,1,1,1,1,1]) (tr:=[.auto,.reg [],.dec false,.reg [.none,.none,.none,.skip,.skip,(.dec true),.none,.skip,.skip,.skip,.skip,.none,.none,.none,.none,.none,.skip,(.dec true)]]) (cj (dltN_f h1) (cj (bnot_t h2) (cj (bnot_t h2) (cj (bnot_t h2) (cj (Eq.refl true) (cj (Eq.refl true) (cj (Eq.refl true) (cj (Eq.refl true) (cj (Eq.refl true) (cj (Eq.refl true) (cj (bnot_t h3) (cj (Eq.refl true) (cj (bnot_t h3) True.intro))))))))))))) (by kernel_rfl)
theorem l13(dec dec2 dec4 dec6 eve:Bool)(t_98:Nat)(dec1 dec3 mul1 add1 dec5 dec7 eve1:Option Int)(h1:7≤t_98)(h2:dec=true)(h3:dec2=false)(h4:eve=false):Loop1 dec dec2 dec4 dec6 eve t_98 dec1 dec3 mul1 add1 dec5 dec7 eve1 (vB true) :=
 L.done mixed tabOk (n:=171) (ns:=[1,1,1,1,1,1,1,1,1,1,1,1,1,1]) (tr:=[.auto,.reg [],.dec false,.reg [.none,.none,.none,.none,.none,(.dec false),.none,.skip,.skip,.skip,.skip,(.dec true),.none,.none,.none,.none,.skip,(.dec true)]]) (cj (dltN_f h1) (cj (bnot_f h2) (cj (bnot_f h2) (cj (bnot_f h2) (cj (bnot_t h3) (cj (bnot_t h3) (cj (bnot_t h3) (cj (bnot_t h3) (cj (Eq.refl true) (cj (Eq.refl true) (cj (Eq.refl true) (cj (bnot_t h4) (cj (Eq.refl true) (cj (bnot_t h4) True.intro)))))))))))))) (by kernel_rfl)
theorem l14(dec dec2 dec4 dec6 eve:Bool)(t_98:Nat)(dec1 dec3 mul1 add1 dec5 dec7 eve1:Option Int)(h1:7≤t_98)(h2:dec=true)(h3:dec2=false)(h4:eve=true):Loop1 dec dec2 dec4 dec6 eve t_98 dec1 dec3 mul1 add1 dec5 dec7 eve1 (vB dec) :=
 L.done mixed tabOk (n:=171) (ns:=[1,1,1,1,1,1,1,1,1,1,1,1,1,1]) (tr:=[.auto,.reg [],.dec false,.reg [.none,.none,.none,.none,.none,(.dec false),.none,.skip,.skip,.skip,.skip,(.dec true),.none,.none,.none,.none,.none,(.dec false)]]) (cj (dltN_f h1) (cj (bnot_f h2) (cj (bnot_f h2) (cj (bnot_f h2) (cj (bnot_t h3) (cj (bnot_t h3) (cj (bnot_t h3) (cj (bnot_t h3) (cj (Eq.refl true) (cj (Eq.refl true) (cj (Eq.refl true) (cj (bnot_f h4) (cj (Eq.refl true) (cj (bnot_f h4) True.intro)))))))))))))) (by kernel_rfl)
theorem l15(dec dec2 dec4 dec6 eve:Bool)(t_98:Nat)(dec1 dec3 mul1 add1 dec5 dec7 eve1:Option Int)(h1:7≤t_98)(h2:dec=true)(h3:dec2=true)(h4:dec4=true)(h5:dec6=true)(h6:eve=false):Loop1 dec dec2 dec4 dec6 eve t_98 dec1 dec3 mul1 add1 dec5 dec7 eve1 (vB true) :=
 L.done mixed tabOk (n:=171) (ns:=[1,1,1,1,1,1,1,1,1,1,1,1,1,1,1,1,1]) (tr:=[.auto,.reg [],.dec false,.reg [.none,.none,.none,.none,.none,(.dec false),.none,.none,.none,.none,(.dec true),(.dec false),.none,.none,.none,.none,.skip,(.dec true),(.dec true)]]) (cj (dltN_f h1) (cj (bnot_f h2) (cj (bnot_f h2) (cj (bnot_f h2) (cj (bnot_f h3) (cj (bnot_f h3) (cj h4 (cj (bnot_f h3) (cj h4 (cj (bnot_f h3) (cj h5 (cj h5 (cj h5 (cj (bnot_t h6) (cj h5 (cj (bnot_t h6) (cj h5 True.intro))))))))))))))))) (by kernel_rfl)
theorem l16(dec dec2 dec4 dec6 eve:Bool)(t_98:Nat)(dec1 dec3 mul1 add1 dec5 dec7 eve1:Option Int)(h1:7≤t_98)(h2:dec=true)(h3:dec2=true)(h4:dec4=true)(h5:dec6=true)(h6:eve=true):Loop1 dec dec2 dec4 dec6 eve t_98 dec1 dec3 mul1 add1 dec5 dec7 eve1 (vB dec) :=
 L.done mixed tabOk (n:=171) (ns:=[1,1,1,1,1,1,1,1,1,1,1,1,1,1,1,1,1]) (tr:=[.auto,.reg [],.dec false,.reg [.none,.none,.none,.none,.none,(.dec false),.none,.none,.none,.none,(.dec true),(.dec false),.none,.none,.none,.none,.none,(.dec false),(.dec true)]]) (cj (dltN_f h1) (cj (bnot_f h2) (cj (bnot_f h2) (cj (bnot_f h2) (cj (bnot_f h3) (cj (bnot_f h3) (cj h4 (cj (bnot_f h3) (cj h4 (cj (bnot_f h3) (cj h5 (cj h5 (cj h5 (cj (bnot_f h6) (cj h5 (cj (bnot_f h6) (cj h5 True.intro))))))))))))))))) (by kernel_rfl)
end linkworklaw31_PositiveJoins
namespace linkworklaw31_short
@[reducible] noncomputable def fn:Func:=Tryz.f15
noncomputable def atK1:List Itm:=focus [0,2,0,0,2,0,0] [.code (bodyOf fn)]
def inv1(l:List (List ARat))(t_9:Nat):St:=⟨[(7,(.pv (lpv (lcell ARat.cells) l))),(8,(eI (l.length:Int))),(9,(eI (t_9:Int)))],[]⟩
@[reducible] noncomputable def Loop1(l:List (List ARat))(t_9:Nat)(r:PV):Prop:=L prg fn atK1 (inv1 l t_9) r
noncomputable def atK2:List Itm:=focus [0,2,0,0,2,0,0,0,0,2,0,0,2,0,0,0,2,0,0,2,1,2,0,2,0,0] [.code (bodyOf fn)]
def inv2(l:List (List ARat))(t_9:Nat)(v:List ARat)(t_18:Nat):St:=⟨[(7,(.pv (lpv (lcell ARat.cells) l))),(8,(eI (l.length:Int))),(9,(eI (t_9:Int))),(16,(.pv (polyPV v))),(17,(eI (v.length:Int))),(18,(eI (t_18:Int)))],[]⟩
@[reducible] noncomputable def Loop2(l:List (List ARat))(t_9:Nat)(v:List ARat)(t_18:Nat)(r:PV):Prop:=L prg fn atK2 (inv2 l t_9 v t_18) r
theorem e0 (l : List (List ARat)) {r : PV}  (hL : Loop1 l 0 r) : Contract prg 15 [(lpv (lcell ARat.cells) l)] r :=
 Contract.ofL Tryz.func15 (by kernel_rfl) (L.go mixed tabOk (n:=81) (ns:=[1]) (tr:=[.reg [],.reg [.none,(iI (l.length:Int))],.keep [7,8,9]]) (cj (o_len (lcell ARat.cells) l) True.intro) (by kernel_rfl) hL)
theorem l10(l:List (List ARat))(t_9:Nat)(v:List ARat)(h1:t_9<l.length)(h2:l[t_9]? = some v)(h3:6<v.length):Loop1 l t_9 (vB false) :=
 L.done mixed tabOk (n:=129) (ns:=[1,3,1,1]) (tr:=[.auto,.reg [],.dec true,.reg [(.row t_9 ((lcell ARat.cells) v))],.reg [.none,(iI (v.length:Int))],.dec true,.reg []]) (cj (dltN_t h1) (cj (o_at (lcell ARat.cells) (Eq.refl (((t_9:Nat):Int):Int)) h2) (cj (o_len ARat.cells v) (cj (dltN_t h3) True.intro)))) (by kernel_rfl)
theorem l11(l:List (List ARat))(t_9:Nat)(v:List ARat){r:PV}(h1:t_9<l.length)(h2:l[t_9]? = some v)(h3:v.length≤6)(hL:Loop2 l t_9 v 0 r):Loop1 l t_9 r :=
 L.go mixed tabOk (n:=138) (ns:=[1,3,1,1,1]) (tr:=[.auto,.reg [],.dec true,.reg [(.row t_9 ((lcell ARat.cells) v))],.reg [.none,(iI (v.length:Int))],.dec false,.reg [.none,(iI (v.length:Int))],.keep [7,8,9,16,17,18]]) (cj (dltN_t h1) (cj (o_at (lcell ARat.cells) (Eq.refl (((t_9:Nat):Int):Int)) h2) (cj (o_len ARat.cells v) (cj (dltN_f h3) (cj (o_len ARat.cells v) True.intro))))) (by kernel_rfl) hL
theorem l12(l:List (List ARat))(t_9:Nat)(h1:l.length≤t_9):Loop1 l t_9 (vB true) :=
 L.done mixed tabOk (n:=114) (ns:=[1]) (tr:=[.auto,.reg [],.dec false,.reg []]) (cj (dltN_f h1) True.intro) (by kernel_rfl)
theorem l20(l:List (List ARat))(t_9:Nat)(v:List ARat)(t_18:Nat)(v1:ARat)(low:Bool)(h1:t_18<v.length)(h2:v[t_18]? = some v1)(h3:Contract prg 69 [v1.pv,(vW (1000:UInt32)),(vW (1000:UInt32))] (vB low))(h4:low=false):Loop2 l t_9 v t_18 (vB false) :=
 L.done mixed tabOk (n:=183) (ns:=[1,3,1,1]) (tr:=[.auto,.reg [],.dec true,.reg [(.row t_18 (ARat.cells v1))],.reg [.none,(.pv (vB low))],.dec true,.reg []]) (cj (dltN_t h1) (cj (o_at ARat.cells (Eq.refl (((t_18:Nat):Int):Int)) h2) (cj h3 (cj (bnot_t h4) True.intro)))) (by kernel_rfl)
theorem l21(l:List (List ARat))(t_9:Nat)(v:List ARat)(t_18:Nat)(v1:ARat)(low:Bool){r:PV}(h1:t_18<v.length)(h2:v[t_18]? = some v1)(h3:Contract prg 69 [v1.pv,(vW (1000:UInt32)),(vW (1000:UInt32))] (vB low))(h4:low=true)(h5:(t_18+1)<9223372036854775808)(hL:Loop2 l t_9 v (t_18+1) r):Loop2 l t_9 v t_18 r :=
 L.go mixed tabOk (n:=186) (ns:=[1,3,1,1,1]) (tr:=[.auto,.reg [],.dec true,.reg [(.row t_18 (ARat.cells v1))],.reg [.none,(.pv (vB low))],.dec false,.reg [(iI (((t_18+1):Nat):Int))],.keep [7,8,9,16,17,18],.drop [6]]) (cj (dltN_t h1) (cj (o_at ARat.cells (Eq.refl (((t_18:Nat):Int):Int)) h2) (cj h3 (cj (bnot_f h4) (cj (bs_addN h5) True.intro))))) (by kernel_rfl) hL
theorem l22(l:List (List ARat))(t_9:Nat)(v:List ARat)(t_18:Nat){r:PV}(h1:v.length≤t_18)(h2:(t_9+1)<9223372036854775808)(hL:Loop1 l (t_9+1) r):Loop2 l t_9 v t_18 r :=
 L.go mixed tabOk (n:=171) (ns:=[1,1]) (tr:=[.auto,.reg [],.dec false,.reg [(iI (((t_9+1):Nat):Int))],.keep [7,8,9]]) (cj (dltN_f h1) (cj (bs_addN h2) True.intro)) (by kernel_rfl) hL
end linkworklaw31_short
namespace linkworklaw31_brief
theorem e0(rV:ARange)(sho:Bool)(h1:Contract prg 15 [(lpv (lcell ARat.cells) [[rV.lo,rV.hi]])] (vB sho)):Contract prg 16 [rV.pv] (vB sho) :=
 Contract.ofL Tryz.func16 (by kernel_rfl) (L.done mixed tabOk (n:=72) (ns:=[3,3,1]) (tr:=[.reg [],.reg [.none,.none,.none,.none,(.slc 0 0 (([rV.lo,rV.hi]:List ARat).map ARat.cells)),(.slc 0 0 (([[rV.lo,rV.hi]]:List (List ARat)).map (lcell ARat.cells))),(.pv (vB sho))]]) (cj (o_bs sz_ARat ([rV.lo,rV.hi]:List ARat)) (cj (o_bs (sz_l ARat.cells) ([[rV.lo,rV.hi]]:List (List ARat))) (cj h1 True.intro))) (by kernel_rfl))
end linkworklaw31_brief
namespace linkworklaw31_awake
theorem e0(of:ARat)(of1 ber of2:List ARat)(of3:ARat)(sca:List ARat)(mak:APosCert)(eve:Bool)(of4:List ARat)(dec:Bool)(of5:List ARat)(sam:Bool)(of6:List ARat)(sam1:Bool)(h1:Contract prg 70 [(vI 2)] of.pv)(h2:Contract prg 71 [(lpv intCell [2,(-2),1])] (polyPV of1))(h3:Contract prg 18 [(polyPV of1),(⟨(⟨false,[],[]⟩:ARat),of⟩:ARange).pv] (.tup [(polyPV ber),.nilI]))(h4:Contract prg 71 [(lpv intCell [5,(-8),4])] (polyPV of2))(h5:Contract prg 73 [(vI 1)] of3.pv)(h6:Contract prg 72 [(polyPV of2),of3.pv] (.tup [(polyPV sca),.nilI]))(h7:Contract prg 37 [(polyPV sca),(⟨(⟨false,[],[]⟩:ARat),of⟩:ARange).pv,(vI 3)] (.tup [mak.pv,.nilI]))(h8:Contract prg 20 [(polyPV sca)] (.tup [(vB eve),.nilI]))(h9:Contract prg 71 [(lpv intCell [(-1),1])] (polyPV of4))(h10:Contract prg 19 [(polyPV of4),(⟨(⟨false,[],[]⟩:ARat),of⟩:ARange).pv] (.tup [(vB dec),.nilI]))(h11:Contract prg 71 [(lpv intCell [2,0,2])] (polyPV of5))(h12:Contract prg 74 [(polyPV ber),(polyPV of5)] (vB sam))(h13:sam=true)(h14:Contract prg 71 [(lpv intCell [1])] (polyPV of6))(h15:Contract prg 74 [(polyPV mak.cuts),(polyPV of6)] (vB sam1))(h16:sam1=true)(h17:eve=true):Contract prg 17 [] (vB (!dec)) :=
 Contract.ofL Tryz.func17 (by kernel_rfl) (L.done mixed tabOk (n:=108) (ns:=[1,3,1,1,3,1,1,1,1,1,3,1,1,1,1,1,1,1,1,1,1,1,1,3,1,1,1,1,1,1,1,3,1,1,1,1,1,1,1,1,1,1]) (tr:=[.reg [],.reg [(.pv of.pv)],dr 8 1 [(.slc 0 0 (([2,(-2),1]:List Int).map intCell)),(.pv (polyPV of1)),.none,(.pv (.tup [(polyPV ber),.nilI]))],.reg [(.slc 0 0 (([5,(-8),4]:List Int).map intCell)),(.pv (polyPV of2)),(.pv of3.pv),(.pv (.tup [(polyPV sca),.nilI]))],.reg [.none,.none,(.pv (.tup [mak.pv,.nilI]))],.reg [.none,(.pv (.tup [(vB eve),.nilI]))],dr 8 1 [(.slc 0 0 (([(-1),1]:List Int).map intCell)),(.pv (polyPV of4)),.none,(.pv (.tup [(vB dec),.nilI]))],dr 38 1 [.none,.none,.none,.none,.none,.none,.none,.none,.none,.none,.none,.none,.none,.none,.none,.none,.none,.none,.none,.none,(.slc 0 0 (([2,0,2]:List Int).map intCell)),(.pv (polyPV of5)),(.pv (vB sam)),.none,.none,.none,.none,(.slc 0 0 (([1]:List Int).map intCell)),(.pv (polyPV of6)),(.pv (vB sam1)),(.dec true),.none,.none,(.dec true),.none,.none,.none,(.dec true)]]) (cj h1 (cj (o_bs sz_int ([2,(-2),1]:List Int)) (cj h2 (cj h3 (cj (o_bs sz_int ([5,(-8),4]:List Int)) (cj h4 (cj h5 (cj h6 (cj h7 (cj h8 (cj (o_bs sz_int ([(-1),1]:List Int)) (cj h9 (cj h10 (cj (Eq.refl true) (cj (Eq.refl true) (cj (Eq.refl true) (cj (Eq.refl true) (cj (Eq.refl true) (cj (Eq.refl true) (cj (Eq.refl true) (cj (Eq.refl true) (cj (Eq.refl true) (cj (Eq.refl true) (cj (o_bs sz_int ([2,0,2]:List Int)) (cj (Eq.refl true) (cj h11 (cj (Eq.refl true) (cj h12 (cj h13 (cj h13 (cj h13 (cj (o_bs sz_int ([1]:List Int)) (cj h13 (cj h14 (cj h13 (cj h15 (cj h13 (cj h16 (cj h16 (cj h17 (cj h17 (cj h17 True.intro)))))))))))))))))))))))))))))))))))))))))) (by kernel_rfl))
end linkworklaw31_awake
namespace linkworklaw31_valid
theorem e0(p:List ARat)(rV:ARange)(sho bri:Bool)(err:Int)(h1:Contract prg 15 [(lpv (lcell ARat.cells) [p])] (vB sho))(h2:sho=true)(h3:Contract prg 16 [rV.pv] (vB bri))(h4:bri=true)(h5:Contract prg 80 [(polyPV p),rV.pv] (vI err)):Contract prg 26 [(polyPV p),rV.pv] (vB (err==0)) :=
 Contract.ofL Tryz.func26 (by kernel_rfl) (L.done mixed tabOk (n:=72) (ns:=[3,1,1,1,1,1,1,1,1,1,1,1]) (tr:=[.reg [],.reg [.none,(.slc 0 0 (([p]:List (List ARat)).map (lcell ARat.cells))),(.pv (vB sho)),.none,.none,(.pv (vB bri)),(.dec true),.none,.none,.none,(.pv (vI err)),.none,(.dec true)]]) (cj (o_bs (sz_l ARat.cells) ([p]:List (List ARat))) (cj h1 (cj h2 (cj h2 (cj h3 (cj h2 (cj h4 (cj h4 (cj h4 (cj h5 (cj h4 (cj h4 True.intro)))))))))))) (by kernel_rfl))
theorem e1(p:List ARat)(rV:ARange)(sho bri:Bool)(h1:Contract prg 15 [(lpv (lcell ARat.cells) [p])] (vB sho))(h2:sho=true)(h3:Contract prg 16 [rV.pv] (vB bri))(h4:bri=false):Contract prg 26 [(polyPV p),rV.pv] (vB false) :=
 Contract.ofL Tryz.func26 (by kernel_rfl) (L.done mixed tabOk (n:=72) (ns:=[3,1,1,1,1,1,1,1,1,1,1]) (tr:=[.reg [],.reg [.none,(.slc 0 0 (([p]:List (List ARat)).map (lcell ARat.cells))),(.pv (vB sho)),.none,.none,(.pv (vB bri)),(.dec true),.none,.skip,.skip,.skip,.skip,(.dec false)]]) (cj (o_bs (sz_l ARat.cells) ([p]:List (List ARat))) (cj h1 (cj h2 (cj h2 (cj h3 (cj h2 (cj h4 (cj h4 (cj h4 (cj h4 (cj h4 True.intro))))))))))) (by kernel_rfl))
theorem e2(p:List ARat)(rV:ARange)(sho:Bool)(h1:Contract prg 15 [(lpv (lcell ARat.cells) [p])] (vB sho))(h2:sho=false):Contract prg 26 [(polyPV p),rV.pv] (vB false) :=
 Contract.ofL Tryz.func26 (by kernel_rfl) (L.done mixed tabOk (n:=72) (ns:=[3,1,1,1,1,1,1,1,1]) (tr:=[.reg [],.reg [.none,(.slc 0 0 (([p]:List (List ARat)).map (lcell ARat.cells))),(.pv (vB sho)),.none,.skip,.skip,(.dec false),.none,.skip,.skip,.skip,.skip]]) (cj (o_bs (sz_l ARat.cells) ([p]:List (List ARat))) (cj h1 (cj h2 (cj h2 (cj h2 (cj (Eq.refl false) (cj (Eq.refl false) (cj (Eq.refl false) (cj (Eq.refl false) True.intro))))))))) (by kernel_rfl))
end linkworklaw31_valid
namespace linkworklaw31_low
theorem e0(x:ARat)(num den:UInt32)(h1:x.num.length<2)(h2:x.den.length<2)(h3:x.num.length=0)(h4:x.den.length=0):Contract prg 69 [x.pv,(vW num),(vW den)] (vB true) :=
 Contract.ofL Tryz.func69 (by kernel_rfl) (L.done mixed tabOk (n:=72) (ns:=[1,1,1,1,1,1,1,1,1,1,1,1,1,1,1,1,1,1,1,1,1,1,1,1,1,1,1,1,1,1,1,1,1,1,1,1]) (tr:=[.reg [],.reg [.none,.none,(iI (x.num.length:Int)),.none,.none,.none,.none,(iI (x.den.length:Int)),.none,(.dec true),.none,.none,.none,(iI (x.num.length:Int)),.none,.none,.skip,.skip,.skip,.skip,.skip,.skip,(.dec true),(.dec true),.none,.none,.none,(iI (x.den.length:Int)),.none,.none,.skip,.skip,.skip,.skip,.skip,.skip,(.dec true)]]) (cj (o_len wordPV x.num) (cj (dltN_t h1) (cj (dltN_t h1) (cj (dltN_t h1) (cj (o_len wordPV x.den) (cj (dltN_t h1) (cj (dltN_t h1) (cj (dltN_t h2) (cj (dltN_t h2) (cj (dltN_t h2) (cj (o_len wordPV x.num) (cj (dltN_t h2) (cj (dltN_t h2) (cj (deqN_t h3) (cj (deqN_t h3) (cj (deqN_t h3) (cj (deqN_t h3) (cj (deqN_t h3) (cj (deqN_t h3) (cj (dltN_t h2) (cj (deqN_t h3) (cj (dltN_t h2) (cj (Eq.refl true) (cj (Eq.refl true) (cj (Eq.refl true) (cj (o_len wordPV x.den) (cj (Eq.refl true) (cj (Eq.refl true) (cj (deqN_t h4) (cj (deqN_t h4) (cj (deqN_t h4) (cj (deqN_t h4) (cj (deqN_t h4) (cj (deqN_t h4) (cj (Eq.refl true) (cj (deqN_t h4) True.intro)))))))))))))))))))))))))))))))))))) (by kernel_rfl))
theorem e1(x:ARat)(num den v:UInt32)(h1:x.num.length<2)(h2:x.den.length<2)(h3:x.num.length=0)(h4:x.den.length≠0)(h5:x.den[0]? = some v):Contract prg 69 [x.pv,(vW num),(vW den)] (vB (decide ((v.toNat:Int)≤(den.toNat:Int)))) :=
 Contract.ofL Tryz.func69 (by kernel_rfl) (L.done mixed tabOk (n:=72) (ns:=[1,1,1,1,1,1,1,1,1,1,1,1,1,1,1,1,1,1,1,1,1,1,1,1,1,1,1,1,1,1,1,3,1,1,1,1,1]) (tr:=[.reg [],.reg [.none,.none,(iI (x.num.length:Int)),.none,.none,.none,.none,(iI (x.den.length:Int)),.none,(.dec true),.none,.none,.none,(iI (x.num.length:Int)),.none,.none,.skip,.skip,.skip,.skip,.skip,.skip,(.dec true),(.dec true),.none,.none,.none,(iI (x.den.length:Int)),.none,.none,.none,.none,(.row 0 (wordPV v)),.none,.none,.none,(.dec false)]]) (cj (o_len wordPV x.num) (cj (dltN_t h1) (cj (dltN_t h1) (cj (dltN_t h1) (cj (o_len wordPV x.den) (cj (dltN_t h1) (cj (dltN_t h1) (cj (dltN_t h2) (cj (dltN_t h2) (cj (dltN_t h2) (cj (o_len wordPV x.num) (cj (dltN_t h2) (cj (dltN_t h2) (cj (deqN_t h3) (cj (deqN_t h3) (cj (deqN_t h3) (cj (deqN_t h3) (cj (deqN_t h3) (cj (deqN_t h3) (cj (dltN_t h2) (cj (deqN_t h3) (cj (dltN_t h2) (cj (Eq.refl true) (cj (Eq.refl true) (cj (Eq.refl true) (cj (o_len wordPV x.den) (cj (Eq.refl true) (cj (Eq.refl true) (cj (deqN_f h4) (cj (deqN_f h4) (cj (deqN_f h4) (cj (o_at wordPV (Eq.refl (0:Int)) h5) (cj (deqN_f h4) (cj (deqN_f h4) (cj (deqN_f h4) (cj (Eq.refl true) (cj (deqN_f h4) True.intro))))))))))))))))))))))))))))))))))))) (by kernel_rfl))
theorem e2(x:ARat)(num den v:UInt32)(h1:x.num.length<2)(h2:x.den.length<2)(h3:x.num.length≠0)(h4:x.num[0]? = some v)(h5:v.toNat≤num.toNat)(h6:x.den.length=0):Contract prg 69 [x.pv,(vW num),(vW den)] (vB true) :=
 Contract.ofL Tryz.func69 (by kernel_rfl) (L.done mixed tabOk (n:=72) (ns:=[1,1,1,1,1,1,1,1,1,1,1,1,1,1,1,1,3,1,1,1,1,1,1,1,1,1,1,1,1,1,1,1,1,1,1,1,1,1]) (tr:=[.reg [],.reg [.none,.none,(iI (x.num.length:Int)),.none,.none,.none,.none,(iI (x.den.length:Int)),.none,(.dec true),.none,.none,.none,(iI (x.num.length:Int)),.none,.none,.none,.none,(.row 0 (wordPV v)),.none,.none,.none,(.dec false),(.dec true),.none,.none,.none,(iI (x.den.length:Int)),.none,.none,.skip,.skip,.skip,.skip,.skip,.skip,(.dec true),(.dec true)]]) (cj (o_len wordPV x.num) (cj (dltN_t h1) (cj (dltN_t h1) (cj (dltN_t h1) (cj (o_len wordPV x.den) (cj (dltN_t h1) (cj (dltN_t h1) (cj (dltN_t h2) (cj (dltN_t h2) (cj (dltN_t h2) (cj (o_len wordPV x.num) (cj (dltN_t h2) (cj (dltN_t h2) (cj (deqN_f h3) (cj (deqN_f h3) (cj (deqN_f h3) (cj (o_at wordPV (Eq.refl (0:Int)) h4) (cj (deqN_f h3) (cj (deqN_f h3) (cj (deqN_f h3) (cj (dltN_t h2) (cj (deqN_f h3) (cj (dltN_t h2) (cj (dleN_t h5) (cj (dleN_t h5) (cj (dleN_t h5) (cj (o_len wordPV x.den) (cj (dleN_t h5) (cj (dleN_t h5) (cj (deqN_t h6) (cj (deqN_t h6) (cj (deqN_t h6) (cj (deqN_t h6) (cj (deqN_t h6) (cj (deqN_t h6) (cj (dleN_t h5) (cj (deqN_t h6) (cj (dleN_t h5) True.intro)))))))))))))))))))))))))))))))))))))) (by kernel_rfl))
theorem e3(x:ARat)(num den v v1:UInt32)(h1:x.num.length<2)(h2:x.den.length<2)(h3:x.num.length≠0)(h4:x.num[0]? = some v)(h5:v.toNat≤num.toNat)(h6:x.den.length≠0)(h7:x.den[0]? = some v1):Contract prg 69 [x.pv,(vW num),(vW den)] (vB (decide ((v1.toNat:Int)≤(den.toNat:Int)))) :=
 Contract.ofL Tryz.func69 (by kernel_rfl) (L.done mixed tabOk (n:=72) (ns:=[1,1,1,1,1,1,1,1,1,1,1,1,1,1,1,1,3,1,1,1,1,1,1,1,1,1,1,1,1,1,1,1,3,1,1,1,1,1,1]) (tr:=[.reg [],.reg [.none,.none,(iI (x.num.length:Int)),.none,.none,.none,.none,(iI (x.den.length:Int)),.none,(.dec true),.none,.none,.none,(iI (x.num.length:Int)),.none,.none,.none,.none,(.row 0 (wordPV v)),.none,.none,.none,(.dec false),(.dec true),.none,.none,.none,(iI (x.den.length:Int)),.none,.none,.none,.none,(.row 0 (wordPV v1)),.none,.none,.none,(.dec false),(.dec true)]]) (cj (o_len wordPV x.num) (cj (dltN_t h1) (cj (dltN_t h1) (cj (dltN_t h1) (cj (o_len wordPV x.den) (cj (dltN_t h1) (cj (dltN_t h1) (cj (dltN_t h2) (cj (dltN_t h2) (cj (dltN_t h2) (cj (o_len wordPV x.num) (cj (dltN_t h2) (cj (dltN_t h2) (cj (deqN_f h3) (cj (deqN_f h3) (cj (deqN_f h3) (cj (o_at wordPV (Eq.refl (0:Int)) h4) (cj (deqN_f h3) (cj (deqN_f h3) (cj (deqN_f h3) (cj (dltN_t h2) (cj (deqN_f h3) (cj (dltN_t h2) (cj (dleN_t h5) (cj (dleN_t h5) (cj (dleN_t h5) (cj (o_len wordPV x.den) (cj (dleN_t h5) (cj (dleN_t h5) (cj (deqN_f h6) (cj (deqN_f h6) (cj (deqN_f h6) (cj (o_at wordPV (Eq.refl (0:Int)) h7) (cj (deqN_f h6) (cj (deqN_f h6) (cj (deqN_f h6) (cj (dleN_t h5) (cj (deqN_f h6) (cj (dleN_t h5) True.intro))))))))))))))))))))))))))))))))))))))) (by kernel_rfl))
theorem e4(x:ARat)(num den v:UInt32)(h1:x.num.length<2)(h2:x.den.length<2)(h3:x.num.length≠0)(h4:x.num[0]? = some v)(h5:num.toNat<v.toNat):Contract prg 69 [x.pv,(vW num),(vW den)] (vB false) :=
 Contract.ofL Tryz.func69 (by kernel_rfl) (L.done mixed tabOk (n:=72) (ns:=[1,1,1,1,1,1,1,1,1,1,1,1,1,1,1,1,3,1,1,1,1,1,1,1,1,1,1,1,1,1]) (tr:=[.reg [],.reg [.none,.none,(iI (x.num.length:Int)),.none,.none,.none,.none,(iI (x.den.length:Int)),.none,(.dec true),.none,.none,.none,(iI (x.num.length:Int)),.none,.none,.none,.none,(.row 0 (wordPV v)),.none,.none,.none,(.dec false),(.dec true),.none,.skip,.skip,.skip,.skip,.skip,.skip,.skip,.skip,.skip,.skip,.skip,.skip,(.dec false)]]) (cj (o_len wordPV x.num) (cj (dltN_t h1) (cj (dltN_t h1) (cj (dltN_t h1) (cj (o_len wordPV x.den) (cj (dltN_t h1) (cj (dltN_t h1) (cj (dltN_t h2) (cj (dltN_t h2) (cj (dltN_t h2) (cj (o_len wordPV x.num) (cj (dltN_t h2) (cj (dltN_t h2) (cj (deqN_f h3) (cj (deqN_f h3) (cj (deqN_f h3) (cj (o_at wordPV (Eq.refl (0:Int)) h4) (cj (deqN_f h3) (cj (deqN_f h3) (cj (deqN_f h3) (cj (dltN_t h2) (cj (deqN_f h3) (cj (dltN_t h2) (cj (dleN_f h5) (cj (dleN_f h5) (cj (dleN_f h5) (cj (dleN_f h5) (cj (dleN_f h5) (cj (dleN_f h5) (cj (dleN_f h5) True.intro)))))))))))))))))))))))))))))) (by kernel_rfl))
theorem e5(x:ARat)(num den:UInt32)(h1:x.num.length<2)(h2:2≤x.den.length):Contract prg 69 [x.pv,(vW num),(vW den)] (vB false) :=
 Contract.ofL Tryz.func69 (by kernel_rfl) (L.done mixed tabOk (n:=72) (ns:=[1,1,1,1,1,1,1,1,1,1,1,1,1,1,1,1,1,1,1,1]) (tr:=[.reg [],.reg [.none,.none,(iI (x.num.length:Int)),.none,.none,.none,.none,(iI (x.den.length:Int)),.none,(.dec true),.none,.skip,.skip,.skip,.skip,.skip,.skip,.skip,.skip,.skip,.skip,.skip,.skip,(.dec false),.none,.skip,.skip,.skip,.skip,.skip,.skip,.skip,.skip,.skip,.skip,.skip,.skip]]) (cj (o_len wordPV x.num) (cj (dltN_t h1) (cj (dltN_t h1) (cj (dltN_t h1) (cj (o_len wordPV x.den) (cj (dltN_t h1) (cj (dltN_t h1) (cj (dltN_f h2) (cj (dltN_f h2) (cj (dltN_f h2) (cj (dltN_f h2) (cj (dltN_f h2) (cj (dltN_f h2) (cj (dltN_f h2) (cj (Eq.refl false) (cj (Eq.refl false) (cj (Eq.refl false) (cj (Eq.refl false) (cj (Eq.refl false) (cj (Eq.refl false) True.intro)))))))))))))))))))) (by kernel_rfl))
theorem e6(x:ARat)(num den:UInt32)(h1:2≤x.num.length):Contract prg 69 [x.pv,(vW num),(vW den)] (vB false) :=
 Contract.ofL Tryz.func69 (by kernel_rfl) (L.done mixed tabOk (n:=72) (ns:=[1,1,1,1,1,1,1,1,1,1,1,1,1,1,1,1,1,1]) (tr:=[.reg [],.reg [.none,.none,(iI (x.num.length:Int)),.none,.none,.skip,.skip,.skip,.skip,(.dec false),.none,.skip,.skip,.skip,.skip,.skip,.skip,.skip,.skip,.skip,.skip,.skip,.skip,.none,.none,.skip,.skip,.skip,.skip,.skip,.skip,.skip,.skip,.skip,.skip,.skip,.skip]]) (cj (o_len wordPV x.num) (cj (dltN_f h1) (cj (dltN_f h1) (cj (dltN_f h1) (cj (dltN_f h1) (cj (dltN_f h1) (cj (Eq.refl false) (cj (Eq.refl false) (cj (Eq.refl false) (cj (Eq.refl false) (cj (Eq.refl false) (cj (Eq.refl false) (cj (Eq.refl false) (cj (Eq.refl false) (cj (Eq.refl false) (cj (Eq.refl false) (cj (Eq.refl false) (cj (Eq.refl false) True.intro)))))))))))))))))) (by kernel_rfl))
end linkworklaw31_low
namespace linkworklaw31_of
@[reducible] noncomputable def fn:Func:=Tryz.f71
noncomputable def atK1:List Itm:=focus [0,2,0,2,0,0,2,0,0] [.code (bodyOf fn)]
def inv1(site_16:List ARat)(l:List Int)(t_8:Nat):St:=⟨[(3,(.row 16 0 site_16.length 3)),(6,(.pv (lpv intCell l))),(7,(eI (l.length:Int))),(8,(eI (t_8:Int)))],[(16,(.pure ((site_16:List ARat).map ARat.cells).flatten))]⟩
@[reducible] noncomputable def Loop1(site_16:List ARat)(l:List Int)(t_8:Nat)(r:PV):Prop:=L prg fn atK1 (inv1 site_16 l t_8) r
theorem e0 (l : List Int) {r : PV}  (hL : Loop1 [] l 0 r) : Contract prg 71 [(lpv intCell l)] r :=
 Contract.ofL Tryz.func71 (by kernel_rfl) (L.go mixed tabOk (n:=87) (ns:=[1]) (tr:=[.reg [],.reg [.nil],.adopt 3 16 3,.reg [.none,(iI (l.length:Int))],.keep [3,6,7,8]]) (cj (o_len intCell l) True.intro) (by kernel_rfl) hL)
theorem l10(site_16:List ARat)(l:List Int)(t_8:Nat)(v:Int)(of:ARat){r:PV}(h1:t_8<l.length)(h2:l[t_8]? = some v)(h3:Contract prg 70 [(vI v)] of.pv)(h4:((site_16++[of]):List ARat).length*56≤140737488355328)(h5:(t_8+1)<9223372036854775808)(hL:Loop1 (site_16++[of]) l (t_8+1) r):Loop1 site_16 l t_8 r :=
 L.go mixed tabOk (n:=126) (ns:=[1,3,1,6,1]) (tr:=[.auto,.reg [],.dec true,.reg [(.row t_8 (intCell v))],.reg [.none,.none,(.pv of.pv),.none,(.app ((site_16++[of]):List ARat).length (((site_16++[of]):List ARat).map ARat.cells).flatten)],.reg [(iI (((t_8+1):Nat):Int))],.keep [3,6,7,8],.drop [15]]) (cj (dltN_t h1) (cj (o_at intCell (Eq.refl (((t_8:Nat):Int):Int)) h2) (cj h3 (cj (o_appR sz_ARat (site_16:List ARat) ([of]:List ARat) 56 (Eq.refl (site_16:List ARat).length) (Eq.refl ([of]:List ARat).length) h4 rfl) (cj (bs_addN h5) True.intro))))) (by kernel_rfl) hL
theorem l11(site_16:List ARat)(l:List Int)(t_8:Nat)(h1:l.length≤t_8):Loop1 site_16 l t_8 (polyPV site_16) :=
 L.done mixed tabOk (n:=120) (ns:=[1,3]) (tr:=[.auto,.reg [],.dec false,.reg [],.frzT 2 ((site_16:List ARat).map ARat.cells)]) (cj (dltN_f h1) (cj (o_frz sz_ARat (site_16:List ARat) (Eq.refl (site_16:List ARat).length)) True.intro)) (by kernel_rfl)
end linkworklaw31_of
end Go.Proofs.YtbgkjomonebfcaaGreat.Sym.Path
namespace Go.Proofs.YtbgkjomonebfcaaGreat.Sym
open Go Path CInt
set_option linter.unusedVariables false
namespace C31
theorem of(l:List Int)(h:∀n∈l,InI64 n)(hl:l.length≤1000):Contract prg 71 [lpv intCell l] (pq (l.map (fun n=>((n:Int):Rat)))):=by
 have loop:∀d t:Nat,l.length-t=d→t≤l.length→linkworklaw31_of.Loop1 (((l.take t).map (fun n=>((n:Int):Rat))).map mkR) l t (pq (l.map (fun n=>((n:Int):Rat)))):=by
  intro d
  induction d with
  |zero =>
   intro t hd ht
   have:t=l.length:=by omega
   subst this
   rw[List.take_length]
   exact linkworklaw31_of.l11 _ _ _ (Nat.le_refl _)
  |succ d ih =>
   intro t hd ht
   obtain⟨v,hv⟩:∃v,l[t]? = some v:=⟨_,List.getElem?_eq_getElem (by omega)⟩
   have:=ih (t+1) (by omega) (by omega)
   rw[List.take_add_one,hv] at this
   refine linkworklaw31_of.l10 _ l t v (mkR ((v:Int):Rat)) (by omega) hv (CRb.Of v (h v (List.mem_of_getElem? hv))) ?_ (by omega) ?_
   ·rw[List.length_append,List.length_map,List.length_map,List.length_take,List.length_singleton];omega
   ·simpa using this
 exact linkworklaw31_of.e0 l (loop _ 0 rfl (by omega))
theorem low(x:ARat):∃b,Contract prg 69 [x.pv,vW 1000,vW 1000] (vB b)∧(b=true→x.num.length≤1∧x.den.length≤1):=by
 by_cases h1:x.num.length<2
 ·by_cases h2:x.den.length<2
  ·by_cases h3:x.num.length=0
   ·by_cases h4:x.den.length=0
    ·exact⟨_,linkworklaw31_low.e0 x _ _ h1 h2 h3 h4,fun _=>by omega⟩
    ·obtain⟨v,hv⟩:∃v,x.den[0]? = some v:=⟨_,List.getElem?_eq_getElem (by omega)⟩
     exact⟨_,linkworklaw31_low.e1 x _ _ v h1 h2 h3 h4 hv,fun _=>by omega⟩
   ·obtain⟨v,hv⟩:∃v,x.num[0]? = some v:=⟨_,List.getElem?_eq_getElem (by omega)⟩
    by_cases h5:v.toNat≤(1000:UInt32).toNat
    ·by_cases h4:x.den.length=0
     ·exact⟨_,linkworklaw31_low.e2 x _ _ v h1 h2 h3 hv h5 h4,fun _=>by omega⟩
     ·obtain⟨u,hu⟩:∃v,x.den[0]? = some v:=⟨_,List.getElem?_eq_getElem (by omega)⟩
      exact⟨_,linkworklaw31_low.e3 x _ _ v u h1 h2 h3 hv h5 h4 hu,fun _=>by omega⟩
    ·exact⟨_,linkworklaw31_low.e4 x _ _ v h1 h2 h3 hv (by omega),fun h=>by cases h⟩
  ·exact⟨_,linkworklaw31_low.e5 x _ _ h1 (by omega),fun h=>by cases h⟩
 ·exact⟨_,linkworklaw31_low.e6 x _ _ (by omega),fun h=>by cases h⟩
theorem short(l:List (List ARat))(hl:l.length≤1000):∃b,Contract prg 15 [lpv (lcell ARat.cells) l] (vB b)∧(b=true→∀p∈l,p.length≤6∧∀a∈p,a.num.length≤1∧a.den.length≤1):=by
 have inner:∀(t:Nat) (v:List ARat),v.length≤6→t<l.length→(∃b,linkworklaw31_short.Loop1 l (t+1) (vB b)∧(b=true→∀p∈l.drop (t+1),p.length≤6∧∀a∈p,a.num.length≤1∧a.den.length≤1)) →
   ∀d u:Nat,v.length-u=d→∃b,linkworklaw31_short.Loop2 l t v u (vB b)∧(b=true→(∀a∈v.drop u,a.num.length≤1∧a.den.length≤1)∧∀p∈l.drop (t+1),p.length≤6∧∀a∈p,a.num.length≤1∧a.den.length≤1):=by
  intro t v hv6 ht ⟨b0,hL,hB⟩ d
  induction d with
  |zero =>
   intro u hd
   exact⟨b0,linkworklaw31_short.l22 l t v u (by omega) (by omega) hL,fun h=>⟨(by rw[List.drop_of_length_le (by omega)];intro a ha;cases ha),hB h⟩⟩
  |succ d ih =>
   intro u hd
   obtain⟨a,ha⟩:∃a,v[u]? = some a:=⟨_,List.getElem?_eq_getElem (by omega)⟩
   obtain⟨b1,h1,h2⟩:=low a
   cases b1 with
   |false=>exact⟨false,linkworklaw31_short.l20 l t v u a _ (by omega) ha h1 rfl,fun h=>by cases h⟩
   |true =>
    obtain⟨b,g1,g2⟩:=ih (u+1) (by omega)
    refine⟨b,linkworklaw31_short.l21 l t v u a _ (by omega) ha h1 rfl (by omega) g1,fun h=>⟨fun x hx => ?_,(g2 h).2⟩⟩
    rw[drop_cons ha] at hx
    rcases List.mem_cons.1 hx with rfl|hx
    ·exact h2 rfl
    ·exact(g2 h).1 x hx
 have outer:∀d t:Nat,l.length-t=d→∃b,linkworklaw31_short.Loop1 l t (vB b)∧(b=true→∀p∈l.drop t,p.length≤6∧∀a∈p,a.num.length≤1∧a.den.length≤1):=by
  intro d
  induction d with
  |zero =>
   intro t hd
   exact⟨true,linkworklaw31_short.l12 l t (by omega),fun _=>by rw[List.drop_of_length_le (by omega)];intro p hp;cases hp⟩
  |succ d ih =>
   intro t hd
   obtain⟨v,hv⟩:∃v,l[t]? = some v:=⟨_,List.getElem?_eq_getElem (by omega)⟩
   by_cases h6:v.length≤6
   ·obtain⟨b,g1,g2⟩:=inner t v h6 (by omega) (ih (t+1) (by omega)) _ 0 rfl
    refine⟨b,linkworklaw31_short.l11 l t v (by omega) hv h6 g1,fun h p hp => ?_⟩
    rw[drop_cons hv] at hp
    rcases List.mem_cons.1 hp with rfl|hp
    ·have:=(g2 h).1
     rw[List.drop_zero] at this
     exact⟨h6,this⟩
    ·exact(g2 h).2 p hp
   ·exact⟨false,linkworklaw31_short.l10 l t v (by omega) hv (by omega),fun h=>by cases h⟩
 obtain⟨b,h1,h2⟩:=outer _ 0 rfl
 rw[List.drop_zero] at h2
 exact⟨b,linkworklaw31_short.e0 l h1,h2⟩
theorem short1(p:List ARat):∃b,Contract prg 15 [lpv (lcell ARat.cells) [p]] (vB b)∧(b=true→p.length≤6∧∀a∈p,a.num.length≤1∧a.den.length≤1):=by
 obtain⟨b,h1,h2⟩:=short [p] (by simp)
 exact⟨b,h1,fun h=>h2 h p (by simp)⟩
theorem brief(r:ARange):∃b,Contract prg 16 [r.pv] (vB b)∧(b=true→(r.lo.num.length≤1∧r.lo.den.length≤1)∧r.hi.num.length≤1∧r.hi.den.length≤1):=by
 obtain⟨b,h1,h2⟩:=short [[r.lo,r.hi]] (by simp)
 refine⟨b,linkworklaw31_brief.e0 r b h1,fun h => ?_⟩
 obtain⟨_,g⟩:=h2 h [r.lo,r.hi] (by simp)
 exact⟨g r.lo (by simp),g r.hi (by simp)⟩
theorem same(q:List Rat)(hl:q.length≤1000)(hf:Fl 68719476736 q):Contract prg 74 [pq q,pq q] (vB true):=by
 have:=CBa.Rats (q.map mkR) (q.map mkR) (by rw[lenM];omega) (fun a ha=>by
  obtain⟨x,hx,rfl⟩:=List.mem_map.1 ha
  have:=fit_mkRk (hf x hx)
  omega)
 rw[eqRs_self] at this
 exact linkworkref05_Same.e0 _ _ _ this
def exA:List Rat:=[((2:Int):Rat),((-2:Int):Rat),((1:Int):Rat)]
def exP:List Rat:=[((5:Int):Rat),((-8:Int):Rat),((4:Int):Rat)]
def exN:List Rat:=[((-1:Int):Rat),((1:Int):Rat)]
theorem fine_of'{p:List Rat}(hz:lastZ p=false)(h0:p≠[])(hl:p.length≤6)(hf:Fl 1 p):Fine 7 6 p:=by
 have h1:=Ch.of_fl hf
 exact⟨hz,h0,hl,h1.mono (by omega),by omega,by omega,by decide⟩
theorem exA_piece:Piece exA 0 2:=⟨by decide +kernel,by decide,by decide +kernel,by decide,by decide,by decide⟩
theorem exP_base:Base exP 0 2:=⟨by decide +kernel,by decide,by decide +kernel,by decide,by decide,by decide⟩
theorem exP_fine:Fine 7 6 exP:=fine_of' (by decide +kernel) (by decide +kernel) (by decide) (by decide +kernel)
theorem exN_fine:Fine 7 6 exN:=fine_of' (by decide +kernel) (by decide +kernel) (by decide) (by decide +kernel)
theorem exA_bern:bernQ exA 0 (2-0)=[((2:Int):Rat),((0:Int):Rat),((2:Int):Rat)]:=by decide +kernel
theorem exP_cut:cutQ exP 0 2 3 0 0=some [((1:Int):Rat)]:=by decide +kernel
theorem exP_pos:posR exP 0 2=true:=by decide +kernel
theorem exP_every:everyB 1 exP=true:=by decide +kernel
theorem exN_pos:posR exN 0 2=false:=by decide +kernel
theorem err0{p:List Rat}{a b:Rat}(hz:lastZ p=false)(hl:p.length≤65)(h:a≤b):err31 (p.map mkR) (mkG a b)=0:=by
 unfold err31
 rw[chk_map hz hl,if_pos rfl,if_pos (ok_mkG h)]
theorem awake:Contract prg 17 [] (vB true):=by
 have o2:=CRb.Of 2 (by unfold InI64;omega)
 have o1:=CFr.Of 1 (by unfold InI64;omega)
 have a1:=of [2, -2,1] (by unfold InI64;decide) (by decide)
 have a2:=of [5, -8,4] (by unfold InI64;decide) (by decide)
 have a4:=of [-1,1] (by unfold InI64;decide) (by decide)
 have a5:=of [2,0,2] (by unfold InI64;decide) (by decide)
 have a6:=of [1] (by unfold InI64;decide) (by decide)
 have g:(⟨⟨false,[],[]⟩,mkR ((2:Int):Rat)⟩:ARange)=mkG 0 2:=rfl
 have fg:FitG 68719476736 (mkG 0 2):=fit_mkG (by decide) (by decide)
 have chA:=CPs.check (exA.map mkR) (mkG 0 2) (fitQ exA_piece.fl (by omega)) fg
 rw[err0 exA_piece.zp (by decide) (by decide)] at chA
 have bA:=CPs.bernstein exA_piece
 rw[exA_bern] at bA
 have hB:=positive_Bernstein.e0 _ _ _ none chA bA
 have fP:Fl 1 exP:=by decide +kernel
 have hSc:=CCa.ScaleQ (a:=1) (d:=1) exP ((1:Int):Rat) exP_base.zp (by decide) fP (by decide) (by omega) (by omega)
 have eSc:trimL (smulL ((1:Int):Rat) exP)=exP:=by decide +kernel
 rw[eSc] at hSc
 have chP:=CPs.check (exP.map mkR) (mkG 0 2) (fitQ exP_base.fl (by omega)) fg
 rw[err0 exP_base.zp (by decide) (by decide)] at chP
 have dP:=CPs.decide' (Or.inr exP_fine) fP (by omega) (by omega) (lo:=0) (hi:=2) (by decide) (by decide) (by decide)
 rw[exP_pos] at dP
 have cP:=CPc.cutN exP_base 3 0 0 (by omega) (by decide)
 rw[exP_cut] at cP
 have e0:ptQ 0 2 0 0=0:=by decide +kernel
 have e1:ptQ 0 2 0 (0+1)=2:=by decide +kernel
 rw[e0,e1] at cP
 have hM:=positive_Make.e3 _ (mkG 0 2) 3 _ _ chP (by omega) (by omega) dP rfl cP
 have hE:=CPs.Everywhere (k:=1) (Or.inr exP_fine) fP (by omega) (by omega)
 rw[exP_every] at hE
 have fN:Fl 1 exN:=by decide +kernel
 have chN:=CPs.check (exN.map mkR) (mkG 0 2) (fitQ fN (by omega)) fg
 rw[err0 exN_fine.zp (by decide) (by decide)] at chN
 have dN:=CPs.decide' (Or.inr exN_fine) fN (by omega) (by omega) (lo:=0) (hi:=2) (by decide) (by decide) (by decide)
 rw[exN_pos] at dN
 have hN:=positive_Decide.e0 _ _ _ none chN dN
 have s1:=same [((2:Int):Rat),((0:Int):Rat),((2:Int):Rat)] (by decide) (by decide +kernel)
 have s2:=same [((1:Int):Rat)] (by decide) (by decide +kernel)
 exact linkworklaw31_awake.e0 _ _ _ _ _ _ _ _ _ _ _ _ _ _ o2 a1 hB a2 o1 hSc hM hE a4 hN a5 s1 rfl a6 s2 rfl rfl
theorem short_fine{p:List ARat}(h:p.length≤6∧∀a∈p,a.num.length≤1∧a.den.length≤1)(hc:chk p=0):p=(vals p).map mkR∧lastZ (vals p)=false∧(vals p).length≤6∧Fl 1 (vals p)∧(vals p=[]∨Fine 7 6 (vals p)):=by
 have hz:=chk_last hc
 have hl:(vals p).length≤6:=by unfold vals;rw[List.length_map];exact h.1
 have hf:Fl 1 (vals p):=fl_vals (fun a ha=>h.2 a ha) (by omega)
 refine⟨(vals_of (chk_valid hc)).symm,hz,hl,hf,?_⟩
 by_cases h0:vals p=[]
 ·exact Or.inl h0
 ·exact Or.inr (fine_of' hz h0 hl hf)
end C31
end Go.Proofs.YtbgkjomonebfcaaGreat.Sym


namespace Go.Proofs.YtbgkjomonebfcaaGreat.Sym
open Go Path CInt
set_option linter.unusedVariables false
theorem posR_of{p:List Rat}{lo hi:Rat}(hz:lastZ p=false)(h0:p≠[])(h:lo≤hi)(hp:Pos p lo hi):posR p lo hi=true:=by
 obtain⟨a,b⟩:=(pos_iff hz h0 h).2 hp
 unfold posR
 rw[decide_eq_true a,Bool.true_and,b]
 simp
namespace C31
structure Sh (p:List ARat) (r:ARange):Prop where
 ep:pq (vals p)=polyPV p
 er:mkG r.lo.val r.hi.val=r
 pl:p.length=(vals p).length
 zp:lastZ (vals p)=false
 len:(vals p).length≤6
 fl:Fl 1 (vals p)
 fine:vals p=[]∨Fine 7 6 (vals p)
 t1:ht r.lo.val≤1
 t2:ht r.hi.val≤1
 le:r.lo.val≤r.hi.val
 ck:Contract prg 75 [polyPV p,r.pv] .nilI
theorem valid(p:List ARat)(r:ARange):Contract prg 26 [polyPV p,r.pv] (vB false)∨(Sh p r∧Contract prg 26 [polyPV p,r.pv] (vB true)):=by
 obtain⟨b1,h1,g1⟩:=short1 p
 cases b1 with
 |false=>exact Or.inl (linkworklaw31_valid.e2 p r _ h1 rfl)
 |true =>
  obtain⟨b2,h2,g2⟩:=brief r
  cases b2 with
  |false=>exact Or.inl (linkworklaw31_valid.e1 p r _ _ h1 rfl h2 rfl)
  |true =>
   have g1:=g1 rfl
   obtain⟨g2,g2'⟩:=g2 rfl
   have fp:FitP 274877906944 p:=fun a ha=>by have:=g1.2 a ha;omega
   have fr:FitG 68719476736 r:=⟨by omega,by omega⟩
   have ck:=CPs.check p r fp fr
   have cr:=CPt.Error p r fp fr
   have hv:=linkworklaw31_valid.e0 p r _ _ _ h1 rfl h2 rfl cr
   by_cases he:err31 p r=0
   ·have hc:chk p=0:=by
     unfold err31 at he
     by_cases h:chk p=0
     ·exact h
     ·rw[if_neg h] at he;exact he
    have hr:r.ok=true:=by
     unfold err31 at he
     rw[if_pos hc] at he
     by_cases h:r.ok=true
     ·exact h
     ·rw[if_neg h] at he;exact absurd he (by decide)
    rw[he] at hv ck
    obtain⟨e,hz,hl,hf,hfn⟩:=short_fine g1 hc
    obtain⟨v1,v2,v3⟩:=ok_parts hr
    refine Or.inr ⟨⟨by show polyPV ((vals p).map mkR)=_;rw[←e],?_,by unfold vals;rw[List.length_map],hz,hl,hf,hfn,ht_fit g2.1 g2.2 (by omega),ht_fit g2'.1 g2'.2 (by omega),v3,ck⟩,hv⟩
    unfold mkG
    rw[mkR_of v1,mkR_of v2]
   ·rw[show (err31 p r==0)=false from by simpa using he] at hv
    exact Or.inl hv
end C31
end Go.Proofs.YtbgkjomonebfcaaGreat.Sym
namespace Go.Proofs.YtbgkjomonebfcaaGreat.Sym
open Go Path CInt
set_option linter.unusedVariables false
theorem pos_mul{p q:List Rat}{lo hi:Rat}(h:Pos p lo hi)(k:Pos q lo hi):Pos (trimL (mulL p q)) lo hi:=by
 obtain⟨c,c1,c2⟩:=h
 obtain⟨d,d1,d2⟩:=k
 refine⟨c*d,Rat.mul_pos c1 d1,fun x x1 x2 => ?_⟩
 rw[evalL_trimL,evalL_mulL]
 have a:=c2 x x1 x2
 have b:=d2 x x1 x2
 have e:=Rat.mul_le_mul_of_nonneg_left b (Rat.le_of_lt c1)
 have f:=Rat.mul_le_mul_of_nonneg_right a (show 0≤evalL q x by grind)
 exact Rat.le_trans e f
theorem pos_add{p q:List Rat}{lo hi:Rat}(h:Pos p lo hi)(k:Pos q lo hi):Pos (trimL (addL p q)) lo hi:=by
 obtain⟨c,c1,c2⟩:=h
 obtain⟨d,d1,d2⟩:=k
 refine⟨c+d,by grind,fun x x1 x2 => ?_⟩
 rw[evalL_trimL,evalL_addL]
 have a:=c2 x x1 x2
 have b:=d2 x x1 x2
 grind
theorem ab_smul(p:List Rat)(x:Rat):evalL (smulL (-1) p) x = -evalL p x:=by rw[evalL_smulL];grind
theorem away_neg{p:List Rat}{a b:Rat}(h:Away p a b):Away (smulL (-1) p) a b:=by
 obtain⟨c,c1,c2⟩:=h
 refine⟨c,c1,fun x x1 x2 => ?_⟩
 have:=c2 x x1 x2
 rw[ab_smul]
 rw[ab_neg];exact this
theorem away_pos{p:List Rat}{a b m:Rat}(h:Away p a b)(h1:a≤m)(h2:m≤b)(h0:0<evalL p m):Pos p a b:=by
 have key:∀x,a≤x→x≤b→0<evalL p x:=by
  intro x x1 x2
  have hne:=h.ne x1 x2
  rcases Rat.le_total (a:=x) (b:=m) with hx|hx
  ·by_cases hs:0<evalL p x
   ·exact hs
   ·exfalso
    have hn:0<evalL (smulL (-1) p) x:=by rw[ab_smul];grind
    obtain⟨c,c1,c2⟩:=pos_of_away hx (away_neg (h.sub x1 h2)) hn
    have:=c2 m hx Rat.le_refl
    rw[ab_smul] at this
    grind
  ·obtain⟨c,c1,c2⟩:=pos_of_away hx (h.sub h1 x2) h0
   have:=c2 x hx Rat.le_refl
   grind
 obtain⟨c,c1,c2⟩:=h
 refine⟨c,c1,fun x x1 x2 => ?_⟩
 have a1:=c2 x x1 x2
 have a2:=key x x1 x2
 have e:ab (evalL p x)=evalL p x:=by rcases ab_cases (evalL p x) with ⟨h,e⟩|⟨h,e⟩<;>grind
 rwa[e] at a1
theorem ab_absR(x:Rat):ab x=absR x:=by
 unfold absR
 rcases ab_cases x with ⟨h,e⟩|⟨h,e⟩
 ·rw[if_neg (by grind),e]
 ·rw[if_pos h,e]
theorem beyond{top b x:Rat}(ht:top≠0)(hb:1≤b)(hx:b≤ab x):∀r:List Rat,r≠[]→topL r=top→(∀c∈r,1+absR (c/top)≤b)→ab top≤ab (evalL r x)
 |[],h,_,_=>absurd rfl h
 |[t],_,h,_=>by
  have:t=top:=h
  subst this
  show ab t≤ab (0*x+t)
  rw[show 0*x+t=t from by grind]
  exact Rat.le_refl
 |a::c::r,_,h,hc=>by
  have h':topL (c::r)=top:=by rw[←h];unfold topL;simp[coef_succ]
  have ih:=beyond ht hb hx (c::r) (by simp) h' (fun y hy=>hc y (by simp[hy]))
  have ha:=hc a (by simp)
  have e:a/top*top=a:=by rw[Rat.div_def,Rat.mul_assoc,Rat.inv_mul_cancel _ ht,Rat.mul_one]
  show ab top≤ab (evalL (c::r) x*x+a)
  generalize evalL (c::r) x=s at ih ⊢
  have m1:=ab_mul s x
  have ma:ab a=absR (a/top)*ab top:=by
   conv=>lhs;rw[←e]
   rw[ab_mul,ab_absR]
  have tri:ab (s*x)-ab a≤ab (s*x+a):=by
   have:=ab_add (s*x+a) (-a)
   rw[show s*x+a + -a=s*x from by grind,ab_neg] at this
   grind
  have t0:=ab_nonneg top
  have s0:=ab_nonneg s
  have k1:ab top*b≤ab s*ab x:=by
   have a1:=Rat.mul_le_mul_of_nonneg_right ih (show 0≤b by grind)
   have a2:=Rat.mul_le_mul_of_nonneg_left hx s0
   exact Rat.le_trans a1 a2
  have k2:absR (a/top)*ab top≤(b-1)*ab top:=Rat.mul_le_mul_of_nonneg_right (by grind) t0
  rw[m1,ma] at tri
  grind
theorem pow2_ge1(j:Nat):1≤pow2 j:=Rat.le_trans (b:=pow2 0) (by decide) (pow2_mono (Nat.zero_le _))
theorem every_pos{k:Nat}{p:List Rat}(hz:lastZ p=false)(hf:Fl k p)(h:everyB k p=true){lo hi:Rat}(hl:lo≤hi):Pos p lo hi:=by
 unfold everyB allR at h
 rw[Bool.and_eq_true,decide_eq_true_eq] at h
 obtain⟨h0,h1⟩:=h
 have h1:chg (chainL p) (-bndQ k p)-chg (chainL p) (bndQ k p)=0:=by simpa using h1
 have hne:p≠[]:=by
  intro e
  subst e
  exact absurd h0 Rat.lt_irrefl
 have hpos:=List.length_pos_iff.2 hne
 have htop:ht (topL p)≤k:=hf _ (List.mem_of_getElem? (coef_get (by omega)))
 obtain⟨j,e1,e2,e3,e4⟩:=bndF_spec htop p 0 hf (Nat.zero_le _)
 have eb:bndQ k p=pow2 j:=e1
 have hb:=pow2_ge1 j
 have htn:=top_ne hz hne
 have far:∀x,pow2 j≤ab x→ab (topL p)≤ab (evalL p x):=fun x hx=>beyond htn hb hx p hne rfl e4
 rw[eb] at h1
 have hnb:evalL p (-pow2 j)≠0:=by
  intro e
  have:=far (-pow2 j) (by rw[ab_neg];exact le_ab _)
  rw[e,ab_zero] at this
  have:=ab_pos htn
  grind
 obtain⟨f1,f2,f3,f4,k',hk,f5⟩:=free_spec hz hne
 have hfn:evalL (freeL p) (-pow2 j)≠0:=by
  intro e
  obtain⟨u,hu⟩:=f4
  rw[hu,e,Rat.mul_zero] at hnb
  exact hnb rfl
 have hceq:chg (chainL p) (-pow2 j)=chg (chainL p) (pow2 j):=by omega
 have hle : -pow2 j≤pow2 j:=by grind
 have mid:Away p (-pow2 j) (pow2 j):=away_dv (away_pow (chg_away f1 f2 f3 hle hceq hfn) k') f5
 have left:Away p (minR lo (-pow2 j)) (-pow2 j):=⟨ab (topL p),ab_pos htn,fun x x1 x2=>far x (by have:=neg_le_ab x;grind)⟩
 have right:Away p (pow2 j) (maxR hi (pow2 j)):=⟨ab (topL p),ab_pos htn,fun x x1 x2=>far x (by have:=le_ab x;grind)⟩
 have all:=(left.join mid).join right
 have a1:=minR_le_r lo (-pow2 j)
 have a2:=maxR_ge_r hi (pow2 j)
 obtain⟨c,c1,c2⟩:=away_pos all (m:=0) (by grind) (by grind) h0
 have b1:=minR_le_l lo (-pow2 j)
 have b2:=maxR_ge_l hi (pow2 j)
 exact⟨c,c1,fun x x1 x2=>c2 x (by grind) (by grind)⟩
end Go.Proofs.YtbgkjomonebfcaaGreat.Sym
namespace Go.Proofs.YtbgkjomonebfcaaGreat.Sym
set_option linter.unusedVariables false
theorem mul_num{q:List Rat}{Dp Dq:Int}{M K:Nat}(hq:∀i,∃m:Int,coef q i*(Dq:Rat)=(m:Rat)∧m.natAbs≤K):∀(p:List Rat),(∀i,∃m:Int,coef p i*(Dp:Rat)=(m:Rat)∧m.natAbs≤M) →
  ∀i,∃m:Int,coef (mulL p q) i*((Dp*Dq:Int):Rat)=(m:Rat)∧m.natAbs≤p.length*(M*K)
 |[],_,i=>⟨0,by rw[show coef (mulL [] q) i=0 from rfl,Rat.zero_mul];rfl,Nat.zero_le _⟩
 |a::p,hp,i=>by
  have ih:=mul_num hq p (fun i=>by obtain⟨m,h⟩:=hp (i+1);exact⟨m,h⟩)
  obtain⟨m0,h1,h2⟩:=hp 0
  rw[coef_zero] at h1
  obtain⟨n0,h3,h4⟩:=hq i
  have hmn:(m0*n0).natAbs≤M*K:=by rw[Int.natAbs_mul];exact Nat.mul_le_mul h2 h4
  rw[coef_mul_cons,List.length_cons,Nat.add_mul,Nat.one_mul]
  cases i with
  |zero =>
   refine⟨m0*n0,?_,by omega⟩
   rw[coef_zero,Rat.intCast_mul,Rat.intCast_mul,←h1,←h3]
   grind
  |succ i =>
   rw[coef_succ]
   obtain⟨k,k1,k2⟩:=ih i
   refine⟨m0*n0+k,?_,?_⟩
   ·rw[Rat.intCast_add,←k1,Rat.intCast_mul,Rat.intCast_mul,←h1,←h3]
    grind
   ·have:=Int.natAbs_add_le (m0*n0) k
    omega
theorem Ch.mul{h k:Nat}{p q:List Rat}(hp:Ch h p)(hq:Ch k q)(hl:p.length≤4294967295):Ch (h+k+1) (mulL p q):=by
 obtain⟨D,d1,d2,d3⟩:=hp
 obtain⟨E,e1,e2,e3⟩:=hq
 have bd:∀(m:Int) (j:Nat),wl m≤j→m.natAbs≤4294967296^j:=by
  intro m j hm
  have h1:=lt_of_len m.natAbs
  have h2:=pow_le (a:=(words m.natAbs).length) (b:=j) hm
  omega
 have key:=mul_num (q:=q) (Dp:=D) (Dq:=E) (M:=4294967296^h) (K:=4294967296^k) (fun i=>by obtain⟨m,a,b⟩:=e3 i;exact⟨m,a,bd m k b⟩) p (fun i=>by obtain⟨m,a,b⟩:=d3 i;exact⟨m,a,bd m h b⟩)
 have hDE:wl (D*E)≤h+k:=by
  have:=wl_mul D E
  omega
 refine⟨D*E,Int.mul_ne_zero d1 e1,by omega,fun i => ?_⟩
 obtain⟨m,a,b⟩:=key i
 refine⟨m,a,len_of_lt ?_⟩
 rw[Nat.pow_add,Nat.pow_add,Nat.pow_one]
 have hP:0<4294967296^h*4294967296^k:=Nat.mul_pos (Nat.pow_pos (by omega)) (Nat.pow_pos (by omega))
 have h2:p.length*(4294967296^h*4294967296^k)≤4294967295*(4294967296^h*4294967296^k):=Nat.mul_le_mul_right _ hl
 generalize 4294967296^h*4294967296^k=P at *
 omega
end Go.Proofs.YtbgkjomonebfcaaGreat.Sym
namespace Go.Proofs.YtbgkjomonebfcaaGreat.Sym
open Go Path CInt
set_option linter.unusedVariables false
theorem posR_pos{p:List Rat}{lo hi:Rat}(hz:lastZ p=false)(h:lo≤hi)(hp:posR p lo hi=true):p≠[]∧Pos p lo hi:=by
 unfold posR at hp
 rw[Bool.and_eq_true,decide_eq_true_eq] at hp
 obtain⟨a,b⟩:=hp
 have h0:p≠[]:=by
  intro e
  subst e
  exact absurd a Rat.lt_irrefl
 have b:chg (chainL p) lo-chg (chainL p) hi=0:=by simpa using b
 exact⟨h0,(pos_iff hz h0 h).1 ⟨a,by omega⟩⟩
namespace C31
theorem fine_or{m:List Rat}(hz:lastZ m=false)(hl:m.length≤7)(hc:Ch 13 m):m=[]∨Fine 13 7 m:=by
 by_cases h0:m=[]
 ·exact Or.inl h0
 ·exact Or.inr ⟨hz,h0,hl,hc,by omega,by omega,by decide⟩
theorem len_trim_mul'(p q:List Rat):(trimL (mulL p q)).length≤p.length+q.length-1:=by
 have key:∀(p q:List Rat) (i:Nat),p.length+q.length≤i+1→coef (mulL p q) i=0:=by
  intro p
  induction p with
  |nil=>intro q i _;rfl
  |cons b p ih =>
   intro q i h
   rw[List.length_cons] at h
   rw[coef_mul_cons,coef_ge (p:=q) (by omega),Rat.mul_zero,Rat.zero_add]
   cases i with
   |zero=>rfl
   |succ i=>rw[coef_succ];exact ih q i (by omega)
 exact len_trim_le (fun i hi=>key p q i (by omega))
theorem PositiveJoins(p q:List ARat)(r:ARange){A B C:Prop}(_:A)(_:B)(_:C):Contract prg 5 [polyPV p,polyPV q,r.pv] (vB true):=by
 rcases valid p r with hv|⟨s,hv⟩
 ·exact linkworklaw31_PositiveJoins.e0 p q r _ _ hv rfl awake
 rcases valid q r with hw|⟨u,hw⟩
 ·exact linkworklaw31_PositiveJoins.e1 p q r _ _ _ hv rfl hw rfl awake
 by_cases k1:4<p.length
 ·exact linkworklaw31_PositiveJoins.e2 p q r _ _ _ hv rfl hw rfl k1 awake
 by_cases k2:4<q.length
 ·exact linkworklaw31_PositiveJoins.e3 p q r _ _ _ hv rfl hw rfl (by omega) k2 awake
 have hpl:=s.pl
 have hql:=u.pl
 have hle:=s.le
 have D1:=CPs.decide' s.fine s.fl (by omega) (by omega) s.le s.t1 s.t2
 have D2:=CPs.decide' u.fine u.fl (by omega) (by omega) u.le u.t1 u.t2
 have E:=CPs.Everywhere (k:=1) s.fine s.fl (by omega) (by omega)
 rw[s.ep,s.er] at D1
 rw[u.ep,u.er] at D2
 rw[s.ep] at E
 have hc2:chk2 ((vals p).map mkR) ((vals q).map mkR)=0:=chk2_zero (chk_map s.zp (by omega)) (chk_map u.zp (by omega))
 have ck2:=CPl.checks2 ((vals p).map mkR) ((vals q).map mkR) (fitQ s.fl (by omega)) (fitQ u.fl (by omega))
 rw[hc2] at ck2
 have tm:=CPl.times (a:=1) (b:=1) 4 (vals p) (vals q) (by omega) (by omega) s.fl u.fl (by omega) (by omega) (Or.inl (by omega)) (by omega)
 have lm:=len_mulL (vals p) (vals q)
 have lt:=len_trimL (mulL (vals p) (vals q))
 have fm:Fl 13 (trimL (mulL (vals p) (vals q))):=fl_trimL (fl_mono (fl_mul_min (n:=4) s.fl u.fl (by omega) (by omega) (Or.inl (by omega))) (by omega))
 have ha:=CCa.AddQ (a:=1) (b:=1) (vals p) (vals q) s.zp u.zp (by omega) (by omega) s.fl u.fl (by omega) (by omega) (by omega)
 have la:=len_trimL (addL (vals p) (vals q))
 rw[len_addL] at la
 have fa:Fl 3 (trimL (addL (vals p) (vals q))):=fl_trimL (fl_addL s.fl u.fl (by omega) (by omega))
 have hm:Contract prg 32 [pq (vals p),pq (vals q)] (.tup [pq (trimL (mulL (vals p) (vals q))),.nilI]):=by
  by_cases h1:0<(vals p).length
  ·by_cases h2:0<(vals q).length
   ·exact poly_Mul.e1 _ _ _ ck2 (by rw[lenM];exact h1) (by rw[lenM];exact h2) (by rw[lenM,lenM];omega) (by rw[lenM,lenM];unfold InI64;omega) (by rw[lenM,lenM];omega) tm
   ·exact poly_Mul.e2 _ _ _ ck2 (by rw[lenM];exact h1) (by rw[lenM];omega) tm
  ·exact poly_Mul.e3 _ _ _ ck2 (by rw[lenM];omega) tm
 rw[s.ep,u.ep] at hm ha
 have fg:FitG 68719476736 (mkG r.lo.val r.hi.val):=fit_mkG (Nat.le_trans s.t1 (by omega)) (Nat.le_trans s.t2 (by omega))
 have t1:=s.t1
 have t2:=s.t2
 have dec:∀m:List Rat,lastZ m=false→m.length≤7→Fl 13 m→Ch 13 m→Contract prg 19 [pq m,r.pv] (.tup [vB (posR m r.lo.val r.hi.val),.nilI]):=by
  intro m hz hl hf hch
  have c:=CPs.check (m.map mkR) (mkG r.lo.val r.hi.val) (fitQ hf (by omega)) fg
  rw[err0 hz (by omega) hle] at c
  have d:=CPs.decide' (fine_or hz hl hch) hf (by omega) (by omega) hle (Nat.le_trans t1 (by omega)) (Nat.le_trans t2 (by omega))
  have:=positive_Decide.e0 _ _ _ none c d
  rwa[s.er] at this
 have chp:Ch 5 (vals p):=(Ch.of_fl s.fl).mono (by omega)
 have chq:Ch 5 (vals q):=(Ch.of_fl u.fl).mono (by omega)
 have ltm:=len_trim_mul' (vals p) (vals q)
 have D4:=dec _ (lastZ_trimL _) (by omega) fm ((chp.mul chq (by omega)).trim.mono (by omega))
 have D6:=dec _ (lastZ_trimL _) (by omega) (fl_mono fa (by omega)) ((chp.add chq).trim.mono (by omega))
 have joins:posR (vals p) r.lo.val r.hi.val=true→posR (vals q) r.lo.val r.hi.val=true→posR (trimL (mulL (vals p) (vals q))) r.lo.val r.hi.val=true∧posR (trimL (addL (vals p) (vals q))) r.lo.val r.hi.val=true:=by
  intro a b
  obtain⟨_,a⟩:=posR_pos s.zp hle a
  obtain⟨_,b⟩:=posR_pos u.zp hle b
  have ne:∀m:List Rat,Pos m r.lo.val r.hi.val→m≠[]:=by
   intro m ⟨c,c1,c2⟩ e
   subst e
   have:=c2 r.lo.val Rat.le_refl hle
   have z:evalL [] r.lo.val=0:=rfl
   rw[z] at this
   grind
  have m:=pos_mul a b
  have n:=pos_add a b
  exact⟨posR_of (lastZ_trimL _) (ne _ m) hle m,posR_of (lastZ_trimL _) (ne _ n) hle n⟩
 have every:everyB 1 (vals p)=true→posR (vals p) r.lo.val r.hi.val=true:=by
  intro h
  have hp:=every_pos s.zp s.fl h hle
  have h0:vals p≠[]:=by
   intro e
   rw[e] at hp
   obtain⟨c,c1,c2⟩:=hp
   have:=c2 r.lo.val Rat.le_refl hle
   have z:evalL [] r.lo.val=0:=rfl
   rw[z] at this
   grind
  exact posR_of s.zp h0 hle hp
 refine linkworklaw31_PositiveJoins.e5 p q r _ _ _ _ none _ none _ none _ none _ none _ none _ none hv rfl hw rfl (by omega) (by omega) awake rfl (positive_Decide.e0 p r _ none s.ck D1) (positive_Decide.e0 q r _ none u.ck D2) hm ha D4 D6 E ?_
 generalize posR (trimL (mulL (vals p) (vals q))) r.lo.val r.hi.val=d4 at joins
 generalize posR (trimL (addL (vals p) (vals q))) r.lo.val r.hi.val=d6 at joins
 generalize posR (vals p) r.lo.val r.hi.val=d1 at joins every
 generalize posR (vals q) r.lo.val r.hi.val=d2 at joins
 generalize everyB 1 (vals p)=ev at every
 have fin:linkworklaw31_PositiveJoins.Loop1 d1 d2 d4 d6 ev 7 none none none none none none none (vB true):=by
  cases d1 with
  |false =>
   cases ev with
   |false=>exact linkworklaw31_PositiveJoins.l11 _ _ _ _ _ _ _ _ _ _ _ _ _ (by omega) rfl rfl
   |true=>exact absurd (every rfl) (by decide)
  |true =>
   cases d2 with
   |false =>
    cases ev with
    |false=>exact linkworklaw31_PositiveJoins.l13 _ _ _ _ _ _ _ _ _ _ _ _ _ (by omega) rfl rfl rfl
    |true=>exact linkworklaw31_PositiveJoins.l14 _ _ _ _ _ _ _ _ _ _ _ _ _ (by omega) rfl rfl rfl
   |true =>
    obtain⟨a,b⟩:=joins rfl rfl
    subst a
    subst b
    cases ev with
    |false=>exact linkworklaw31_PositiveJoins.l15 _ _ _ _ _ _ _ _ _ _ _ _ _ (by omega) rfl rfl rfl rfl rfl
    |true=>exact linkworklaw31_PositiveJoins.l16 _ _ _ _ _ _ _ _ _ _ _ _ _ (by omega) rfl rfl rfl rfl rfl
 have go:∀t,t<7→linkworklaw31_PositiveJoins.Loop1 d1 d2 d4 d6 ev (t+1) none none none none none none none (vB true)→linkworklaw31_PositiveJoins.Loop1 d1 d2 d4 d6 ev t none none none none none none none (vB true):=by
  intro t ht h
  refine linkworklaw31_PositiveJoins.l10 _ _ _ _ _ t _ _ _ _ _ _ _ ht ?_ (by omega) h
  match t,ht with
  |0,_=>rfl
  |1,_=>rfl
  |2,_=>rfl
  |3,_=>rfl
  |4,_=>rfl
  |5,_=>rfl
  |6,_=>rfl
 exact go 0 (by omega) (go 1 (by omega) (go 2 (by omega) (go 3 (by omega) (go 4 (by omega) (go 5 (by omega) (go 6 (by omega) fin))))))
end C31
end Go.Proofs.YtbgkjomonebfcaaGreat.Sym
namespace Go.Proofs.YtbgkjomonebfcaaGreat.Sym
open Go Go.RowKit Go.ChangeShapes Go.WideShapes Go.ChangeAt
set_option linter.unusedVariables false
namespace RowPositiveJoins
theorem own:ownKnob Tryz.prog.godebug=none:=by kernel_rfl
theorem laid:laidOutB prg=true:=by kernel_rfl
theorem okArg{P:Program}{W:World}{base:Nat}{ps:Array TypeId}{args:Array Value}(hval:∀(j:Nat) t v,ps[j]? = some t→args[j]? = some v→Value.okWide P W .any base t v)(j:Nat){t:TypeId}{v:Value}(h1:ps[j]? = some t)(h2:args[j]? = some v):Value.okWide P W .any base t v:=hval j t v h1 h2
set_option maxRecDepth 100000 in
theorem contract(H:Type)(enc:TypeId×Value→H)(W:World)(base:Nat)(args:Array Value)(ds gs:List (DataW H))(before:List MemPlace)
  (hval:∀(j:Nat) t v,Tryz.f5.params[j]? = some t→args[j]? = some v→Value.okWide Tryz.prog W .any base t v)
  (hW:DataW.Whole enc Tryz.prog Tryz.f5.params.toList Rows.positiveJoinsSpec.vars false W args.toList ds gs before)
  (hz:(DataW.weightsEach Tryz.prog (Tryz.f5.params.toList++Rows.positiveJoinsSpec.plain.varTypes Tryz.prog) (ds++gs)).all (·≤reachBytes)=true) :
  Calls Tryz.prog 5 args W fun e W'=>∃v,e = .returned v∧Rows.positiveJoinsSpec.post enc Tryz.prog Tryz.f5 false true false false W args v W':=by
 have hW':=hW
 obtain⟨p,q,hA,hV,rfl,hfz,hnd⟩:=hW
 have hp:Tryz.f5.params = #[23,23,28]:=by kernel_rfl
 rw[hp] at hA hval hz
 obtain⟨v0,vs0,d0,ds0,p0,q0,hargs,rfl,rfl,h0,r0⟩:=trodAll_cons hA
 obtain⟨v1,vs1,d1,ds1,p1,q1,rfl,rfl,rfl,h1,r1⟩:=trodAll_cons r0
 obtain⟨v2,vs2,d2,ds2,p2,q2,rfl,rfl,rfl,h2,r2⟩:=trodAll_cons r1
 obtain⟨rfl,rfl,rfl⟩:=trodAll_nil r2
 obtain rfl:args = #[v0,v1,v2]:=by cases args;simp_all
 obtain⟨rfl,rfl⟩:=trodVars_none hV
 obtain⟨n0,hn0⟩:=h0
 have hw0:∀k∈d0.weights prg 23,k≤reachBytes:=by
  intro k hk
  have:=List.all_eq_true.1 hz k (DataW.weights_mem_each (j:=0) rfl rfl k hk)
  simpa using this
 obtain⟨x0,hx0,b0⟩:=opens_poly enc W 0 (fun _=>true) true n0 _ _ hn0 hw0
 obtain⟨ra0,rl0,rc0,rfl⟩:=okWide_slice (show Tryz.prog.underlying 23=some (.slice 26) by kernel_rfl) (okArg hval 0 (t:=23) (v:=v0) (by simp) (by simp))
 have hrd0:Rd (Old W) W (polyPV x0) (.slice ra0 rl0 rc0):=(hx0.2 0 _ _ rfl rfl).2
 obtain⟨n1,hn1⟩:=h1
 have hw1:∀k∈d1.weights prg 23,k≤reachBytes:=by
  intro k hk
  have:=List.all_eq_true.1 hz k (DataW.weights_mem_each (j:=1) rfl rfl k hk)
  simpa using this
 obtain⟨x1,hx1,b1⟩:=opens_poly enc W 0 (fun _=>true) true n1 _ _ hn1 hw1
 obtain⟨ra1,rl1,rc1,rfl⟩:=okWide_slice (show Tryz.prog.underlying 23=some (.slice 26) by kernel_rfl) (okArg hval 1 (t:=23) (v:=v1) (by simp) (by simp))
 have hrd1:Rd (Old W) W (polyPV x1) (.slice ra1 rl1 rc1):=(hx1.2 0 _ _ rfl rfl).2
 obtain⟨n2,hn2⟩:=h2
 have hw2:∀k∈d2.weights prg 28,k≤reachBytes:=by
  intro k hk
  have:=List.all_eq_true.1 hz k (DataW.weights_mem_each (j:=2) rfl rfl k hk)
  simpa using this
 obtain⟨x2,hx2,b2⟩:=opens_ARange enc W 0 (fun _=>true) true n2 _ _ hn2 hw2
 obtain⟨fs2,hu2,_⟩:=flds_spec (show fldsOf (prg.underlying 28)=some [(26,0),(26,3)] by kernel_rfl)
 have hv2:Value.okWide Tryz.prog W .any base 28 v2:=okArg hval 2 (by simp) (by simp)
 have hrd2:Rd (Old W) W x2.pv v2:=rd_struct (P:=Tryz.prog) (cs:=x2.cells) hu2 hv2 hx2
 have hc:=C31.PositiveJoins x0 x1 x2 b0 b1 b2
 refine(hc.2 (Old W) W (fun _=>none) #[.slice ra0 rl0 rc0,.slice ra1 rl1 rc1,v2] (fun b hb=>hb) ⟨(fun r sc h=>by cases h),(fun r r' b h=>by obtain⟨_,h⟩:=h)⟩ rfl ?_).mono ?_
 ·intro j e v he hv
  cases j with
  |zero=>simp at he hv;subst he hv;exact hrd0
  |succ j =>
   cases j with
   |zero=>simp at he hv;subst he hv;exact hrd1
   |succ j =>
    cases j with
    |zero=>simp at he hv;subst he hv;exact hrd2
    |succ j=>simp at he
 ·intro e W' ⟨v,β',he,_,hk,_,hv,_⟩
  subst he
  have hv:Rd _ W' (vB true) v:=hv
  cases hv
  have hk':Keeps (fun _=>False) W W':=⟨hk.os,hk.tape,hk.output,hk.size,fun k h1 _=>hk.block k h1 (fun ⟨y,hy,_⟩=>by obtain⟨_,hy⟩:=hy),hk.shape⟩
  refine⟨_,rfl,post_true (tb:=4) hW' hk' rfl (by kernel_rfl) (by kernel_rfl) rfl rfl rfl laid ?_⟩
  rw[hp]
  intro t ht
  have:t=23∨t=23∨t=28:=by simpa using ht
  rcases this with rfl|rfl|rfl
  all_goals exact⟨by kernel_rfl,of_decide_eq_true (by kernel_rfl)⟩
set_option maxRecDepth 100000 in
theorem lifted(os:Os)(started:os.Started)(H:Type)(enc:TypeId×Value→H) :
  ReturnsInHanded {} Tryz.checked os 5 .any (Rows.positiveJoinsSpec.pre6 enc Tryz.prog Tryz.f5 Rows.positiveJoinsRow.domain false) (Rows.positiveJoinsSpec.post enc Tryz.prog Tryz.f5 false true false false):=by
 refine returnsInHanded_of_change_sized (C:=Tryz.checked) own started (by kernel_rfl) Tryz.func5
  (ChangeSpec.witness6 (enc:=enc) (C:=Tryz.checked) false ⟨#[],#[.slice none 0 0,.slice none 0 0,.agg #[.bool false,.slice none 0 0,.slice none 0 0,.bool false,.slice none 0 0,.slice none 0 0]],[]⟩ 8 (by kernel_rfl) (by kernel_rfl) (by kernel_rfl) (by kernel_rfl)) ?_
 intro W base args ds gs before hval hW _ hz _
 exact contract H enc W base args ds gs before hval hW hz
theorem j1:(Rows.positiveJoinsRow.inPlace==Tryz.prog.inPlace 5)=true:=by kernel_rfl
theorem j2:(Rows.positiveJoinsRow.unfollowed==Tryz.prog.unfollowed 5)=true:=by kernel_rfl
theorem j3:(Rows.positiveJoinsRow.recurses==Tryz.prog.recurses 5)=true:=by kernel_rfl
theorem j4:(Rows.positiveJoinsRow.named==Tryz.prog.varsNamed 5)=true:=by kernel_rfl
theorem closed:joinedFacts Tryz.prog 5 Tryz.f5 Rows.positiveJoinsSpec Rows.positiveJoinsRow=true:=by
 unfold joinedFacts
 rw[j1,j2,j3,j4]
 kernel_rfl
theorem proved:Rows.PositiveJoinsSaid :=
 OpenClaim.holds_of_wide 5 Tryz.f5 rfl rfl rfl rfl rfl rfl rfl ⟨rfl,rfl,rfl,rfl,rfl⟩ rfl rfl rfl rfl rfl (by kernel_rfl) Tryz.func5 closed
  (of_decide_eq_true (by kernel_rfl)) (by unfold Func.isWrapper;first|(rw [if_pos (by decide +kernel)];kernel_rfl)|(rw [if_neg (by decide +kernel)];exact⟨rfl,rfl⟩))
  (fun os started H enc _=>lifted os started H enc)
end RowPositiveJoins
end Go.Proofs.YtbgkjomonebfcaaGreat.Sym
