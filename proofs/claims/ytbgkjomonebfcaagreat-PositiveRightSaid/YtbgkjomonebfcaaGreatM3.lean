/- The statement PositiveRight is proved: a polynomial whose certificate is accepted is positive on the range; no condition. -/
import Derived.Test.YtbgkjomonebfcaaGreatM0
import Derived.Test.YtbgkjomonebfcaaGreatM2
import Derived.Test.YtbgkjomonebfcaaGreatRows
import Derived.JoinedCond
namespace Go.Proofs.YtbgkjomonebfcaaGreat.Sym.Path
open Go
set_option maxRecDepth 20000
set_option linter.unusedVariables false
namespace positive_Bernstein
theorem e0(p:List ARat)(rV:ARange)(ber:List ARat)(ber1:Option Int)(h1:Contract prg 75 [(polyPV p),rV.pv] .nilI)(h2:Contract prg 76 [(polyPV p),rV.pv] (.tup [(polyPV ber),(errPV ber1)])):Contract prg 18 [(polyPV p),rV.pv] (.tup [(polyPV ber),(errPV ber1)]) :=
 Contract.ofL Tryz.func18 (by kernel_rfl) (L.done mixed tabOk (n:=93) (ns:=[1,1]) (tr:=[.reg [],.reg [.none,.none,(.pv .nilI)],.reg [],.auto,.reg [.none,.none,(.pv (.tup [(polyPV ber),(errPV ber1)]))]]) (cj h1 (cj h2 True.intro)) (by kernel_rfl))
end positive_Bernstein
namespace positive_Decide
theorem e0(p:List ARat)(rV:ARange)(dec:Bool)(dec1:Option Int)(h1:Contract prg 75 [(polyPV p),rV.pv] .nilI)(h2:Contract prg 77 [(polyPV p),rV.pv] (.tup [(vB dec),(errPV dec1)])):Contract prg 19 [(polyPV p),rV.pv] (.tup [(vB dec),(errPV dec1)]) :=
 Contract.ofL Tryz.func19 (by kernel_rfl) (L.done mixed tabOk (n:=93) (ns:=[1,1]) (tr:=[.reg [],.reg [.none,.none,(.pv .nilI)],.reg [],.auto,.reg [.none,.none,(.pv (.tup [(vB dec),(errPV dec1)]))]]) (cj h1 (cj h2 True.intro)) (by kernel_rfl))
end positive_Decide
namespace positive_Everywhere
theorem e0(p:List ARat)(eva:ARat)(sig:Int)(h1:Contract prg 78 [(polyPV p)] .nilI)(h2:Contract prg 27 [(polyPV p),(⟨false,[],[]⟩:ARat).pv] (.tup [eva.pv,.nilI]))(h3:Contract prg 39 [eva.pv] (vI sig))(h4:sig≤0):Contract prg 20 [(polyPV p)] (.tup [(vB false),.nilI]) :=
 Contract.ofL Tryz.func20 (by kernel_rfl) (L.done mixed tabOk (n:=111) (ns:=[1,1,1,1,1,1,1]) (tr:=[.reg [],.reg [.none,(.pv .nilI)],.reg [],.auto,.reg [.none,.none,(.pv (.tup [eva.pv,.nilI]))],.reg [.none,.none,.none,.none,(.pv (vI sig))],.dec true,.reg []]) (cj h1 (cj h2 (cj (Eq.refl false) (cj (Eq.refl false) (cj h3 (cj (Eq.refl false) (cj (dle_t h4) True.intro))))))) (by kernel_rfl))
theorem e1(p:List ARat)(eva:ARat)(sig all:Int)(all1:Option Int)(h1:Contract prg 78 [(polyPV p)] .nilI)(h2:Contract prg 27 [(polyPV p),(⟨false,[],[]⟩:ARat).pv] (.tup [eva.pv,.nilI]))(h3:Contract prg 39 [eva.pv] (vI sig))(h4:0<sig)(h5:Contract prg 79 [(polyPV p)] (.tup [(vI all),(errPV all1)])):Contract prg 20 [(polyPV p)] (.tup [(vB (all==0)),(errPV all1)]) :=
 Contract.ofL Tryz.func20 (by kernel_rfl) (L.done mixed tabOk (n:=120) (ns:=[1,1,1,1,1,1,1,1]) (tr:=[.reg [],.reg [.none,(.pv .nilI)],.reg [],.auto,.reg [.none,.none,(.pv (.tup [eva.pv,.nilI]))],.reg [.none,.none,.none,.none,(.pv (vI sig))],.dec false,.reg [.none,(.pv (.tup [(vI all),(errPV all1)]))],.reg []]) (cj h1 (cj h2 (cj (Eq.refl false) (cj (Eq.refl false) (cj h3 (cj (Eq.refl false) (cj (dle_f h4) (cj h5 True.intro)))))))) (by kernel_rfl))
end positive_Everywhere
namespace positive_Verify
@[reducible] noncomputable def fn:Func:=Tryz.f35
noncomputable def atK1:List Itm:=focus [0,2,0,0,2,0,2,1,2,0,0,2,1,2,0,0,2,0,0] [.code (bodyOf fn)]
def inv1(p:List ARat)(c:APosCert)(t_30:Nat)(rV:ARange):St:=⟨[(0,(.pv (polyPV p))),(4,(.ptr 4 0)),(5,(.ptr 5 0)),(28,(.pv (polyPV c.cuts))),(29,(eI (c.cuts.length:Int))),(30,(eI (t_30:Int)))],[(4,(.lit [(eB rV.lo.neg),(.pv (wordsPV rV.lo.num)),(.pv (wordsPV rV.lo.den)),(eB rV.hi.neg),(.pv (wordsPV rV.hi.num)),(.pv (wordsPV rV.hi.den))])),(5,(.lit [(.pv (polyPV c.cuts))]))]⟩
@[reducible] noncomputable def Loop1(p:List ARat)(c:APosCert)(t_30:Nat)(rV:ARange)(r:PV):Prop:=L prg fn atK1 (inv1 p c t_30 rV) r
noncomputable def atK2:List Itm:=focus [0,2,0,0,2,0,2,1,2,0,0,2,1,2,0,0,2,0,0,0,0,2,0,1,2,2,2,2,0,2,0,0,2,0,0] [.code (bodyOf fn)]
def inv2(p:List ARat)(c:APosCert)(rV:ARange)(t_81:Nat)(site_11:ARat):St:=⟨[(0,(.pv (polyPV p))),(11,(.ptr 11 0)),(79,(.row 79 0 ((c.cuts++[rV.hi]).length) 3)),(80,(eI (((c.cuts++[rV.hi]).length:Nat):Int))),(81,(eI (t_81:Int)))],[(11,(.lit [(eB site_11.neg),(.pv (wordsPV site_11.num)),(.pv (wordsPV site_11.den))])),(79,(.pure (((c.cuts++[rV.hi]):List ARat).map ARat.cells).flatten))]⟩
@[reducible] noncomputable def Loop2(p:List ARat)(c:APosCert)(rV:ARange)(t_81:Nat)(site_11:ARat)(r:PV):Prop:=L prg fn atK2 (inv2 p c rV t_81 site_11) r
theorem e0(p:List ARat)(rV:ARange)(c:APosCert)(h1:Contract prg 75 [(polyPV p),rV.pv] .nilI)(h2:255<c.cuts.length):Contract prg 35 [(polyPV p),rV.pv,c.pv] (.tup [(vB false),(.iface 94 (vI 4))]) :=
 Contract.ofL Tryz.func35 (by kernel_rfl) (L.done mixed tabOk (n:=105) (ns:=[1,1,1]) (tr:=[.reg [],.reg [.none,.none,(.pv .nilI)],.reg [],.auto,.reg [.none,.none,(iI (c.cuts.length:Int))],.dec true,.reg []]) (cj h1 (cj (o_len ARat.cells c.cuts) (cj (dltN_t h2) True.intro))) (by kernel_rfl))
theorem e1(p:List ARat)(rV:ARange)(c:APosCert){r:PV}(h1:Contract prg 75 [(polyPV p),rV.pv] .nilI)(h2:c.cuts.length≤255)(hL:Loop1 p c 0 rV r):Contract prg 35 [(polyPV p),rV.pv,c.pv] r :=
 Contract.ofL Tryz.func35 (by kernel_rfl) (L.go mixed tabOk (n:=117) (ns:=[1,1,1,1]) (tr:=[.reg [],.reg [.none,.none,(.pv .nilI)],.reg [],.auto,.reg [.none,.none,(iI (c.cuts.length:Int))],.dec false,.reg [.none,.none,(iI (c.cuts.length:Int))],.keep [0,4,5,28,29,30],.ord [4,5]]) (cj h1 (cj (o_len ARat.cells c.cuts) (cj (dltN_f h2) (cj (o_len ARat.cells c.cuts) True.intro)))) (by kernel_rfl) hL)
theorem l10(p:List ARat)(c:APosCert)(t_30:Nat)(rV:ARange)(v:ARat)(val:Bool)(h1:t_30<c.cuts.length)(h2:c.cuts[t_30]? = some v)(h3:Contract prg 97 [v.pv] (vB val))(h4:val=false):Loop1 p c t_30 rV (.tup [(vB false),(.iface 94 (vI 2))]) :=
 L.done mixed tabOk (n:=165) (ns:=[1,3,1,1]) (tr:=[.auto,.reg [],.dec true,.reg [.none,(.row t_30 (ARat.cells v))],.reg [.none,(.pv (vB val))],.dec true,.reg []]) (cj (dltN_t h1) (cj (o_at ARat.cells (Eq.refl (((t_30:Nat):Int):Int)) h2) (cj h3 (cj (bnot_t h4) True.intro)))) (by kernel_rfl)
theorem l11(p:List ARat)(c:APosCert)(t_30:Nat)(rV:ARange)(v:ARat)(val:Bool)(cmp:Int)(h1:t_30<c.cuts.length)(h2:c.cuts[t_30]? = some v)(h3:Contract prg 97 [v.pv] (vB val))(h4:val=true)(h5:Contract prg 29 [v.pv,rV.lo.pv] (vI cmp))(h6:cmp≤0):Loop1 p c t_30 rV (.tup [(vB false),(.iface 94 (vI 3))]) :=
 L.done mixed tabOk (n:=174) (ns:=[1,3,1,1,1,1,1,1,1,1,1]) (tr:=[.auto,.reg [],.dec true,.reg [.none,(.row t_30 (ARat.cells v))],.reg [.none,(.pv (vB val))],.dec false,.reg [.none,.none,.none,(.pv (vI cmp)),.none,.none,.skip,.skip,.skip,.skip,.skip,(.dec true)],.auto,.reg []]) (cj (dltN_t h1) (cj (o_at ARat.cells (Eq.refl (((t_30:Nat):Int):Int)) h2) (cj h3 (cj (bnot_f h4) (cj h5 (cj (dle_t h6) (cj (dle_t h6) (cj (dle_t h6) (cj (dle_t h6) (cj (dle_t h6) (cj (dle_t h6) True.intro))))))))))) (by kernel_rfl)
theorem l12(p:List ARat)(c:APosCert)(t_30:Nat)(rV:ARange)(v:ARat)(val:Bool)(cmp cmp1:Int)(h1:t_30<c.cuts.length)(h2:c.cuts[t_30]? = some v)(h3:Contract prg 97 [v.pv] (vB val))(h4:val=true)(h5:Contract prg 29 [v.pv,rV.lo.pv] (vI cmp))(h6:0<cmp)(h7:Contract prg 29 [v.pv,rV.hi.pv] (vI cmp1))(h8:0≤cmp1):Loop1 p c t_30 rV (.tup [(vB false),(.iface 94 (vI 3))]) :=
 L.done mixed tabOk (n:=174) (ns:=[1,3,1,1,1,1,1,1,1,1,1,1,1]) (tr:=[.auto,.reg [],.dec true,.reg [.none,(.row t_30 (ARat.cells v))],.reg [.none,(.pv (vB val))],.dec false,.reg [.none,.none,.none,(.pv (vI cmp)),.none,.none,.none,.none,.none,(.pv (vI cmp1)),.none,(.dec false)],.dec true,.reg []]) (cj (dltN_t h1) (cj (o_at ARat.cells (Eq.refl (((t_30:Nat):Int):Int)) h2) (cj h3 (cj (bnot_f h4) (cj h5 (cj (dle_f h6) (cj (dle_f h6) (cj (dle_f h6) (cj (dle_f h6) (cj h7 (cj (dle_f h6) (cj (dle_f h6) (cj (dle_t h8) True.intro))))))))))))) (by kernel_rfl)
theorem l13(p:List ARat)(c:APosCert)(t_30:Nat)(rV:ARange)(v:ARat)(val:Bool)(cmp cmp1:Int)(k:Nat)(v1:ARat)(cmp2:Int)(h1:t_30<c.cuts.length)(h2:c.cuts[t_30]? = some v)(h3:Contract prg 97 [v.pv] (vB val))(h4:val=true)(h5:Contract prg 29 [v.pv,rV.lo.pv] (vI cmp))(h6:0<cmp)(h7:Contract prg 29 [v.pv,rV.hi.pv] (vI cmp1))(h8:cmp1<0)(h9:0<t_30)(h10:InI64 ((t_30:Int)-1))(h11:((t_30:Int)-1)=(k:Int))(h12:c.cuts[k]? = some v1)(h13:Contract prg 29 [v.pv,v1.pv] (vI cmp2))(h14:cmp2≤0):Loop1 p c t_30 rV (.tup [(vB false),(.iface 94 (vI 12))]) :=
 L.done mixed tabOk (n:=183) (ns:=[1,3,1,1,1,1,1,1,1,1,1,1,1,1,1,1,1,1,1,1,3,1,1,1,1,1,1]) (tr:=[.auto,.reg [],.dec true,.reg [.none,(.row t_30 (ARat.cells v))],.reg [.none,(.pv (vB val))],.dec false,.reg [.none,.none,.none,(.pv (vI cmp)),.none,.none,.none,.none,.none,(.pv (vI cmp1)),.none,(.dec false)],.dec false,dr 13 1 [.none,.none,.none,.none,.none,.none,.none,(iI ((t_30:Int)-1)),(.row k (ARat.cells v1)),.none,(.pv (vI cmp2)),.none,(.dec true)],.dec true,.reg []]) (cj (dltN_t h1) (cj (o_at ARat.cells (Eq.refl (((t_30:Nat):Int):Int)) h2) (cj h3 (cj (bnot_f h4) (cj h5 (cj (dle_f h6) (cj (dle_f h6) (cj (dle_f h6) (cj (dle_f h6) (cj h7 (cj (dle_f h6) (cj (dle_f h6) (cj (dle_f h8) (cj (dltN_t h9) (cj (dltN_t h9) (cj (dltN_t h9) (cj (dltN_t h9) (cj (dltN_t h9) (cj (bs_sub h10) (cj (dltN_t h9) (cj (o_at ARat.cells h11 h12) (cj (dltN_t h9) (cj (dltN_t h9) (cj h13 (cj (dltN_t h9) (cj (dltN_t h9) (cj (dle_t h14) True.intro))))))))))))))))))))))))))) (by kernel_rfl)
theorem l14(p:List ARat)(c:APosCert)(t_30:Nat)(rV:ARange)(v:ARat)(val:Bool)(cmp cmp1:Int)(k:Nat)(v1:ARat)(cmp2:Int){r:PV}(h1:t_30<c.cuts.length)(h2:c.cuts[t_30]? = some v)(h3:Contract prg 97 [v.pv] (vB val))(h4:val=true)(h5:Contract prg 29 [v.pv,rV.lo.pv] (vI cmp))(h6:0<cmp)(h7:Contract prg 29 [v.pv,rV.hi.pv] (vI cmp1))(h8:cmp1<0)(h9:0<t_30)(h10:InI64 ((t_30:Int)-1))(h11:((t_30:Int)-1)=(k:Int))(h12:c.cuts[k]? = some v1)(h13:Contract prg 29 [v.pv,v1.pv] (vI cmp2))(h14:0<cmp2)(h15:(t_30+1)<9223372036854775808)(hL:Loop1 p c (t_30+1) rV r):Loop1 p c t_30 rV r :=
 L.go mixed tabOk (n:=189) (ns:=[1,3,1,1,1,1,1,1,1,1,1,1,1,1,1,1,1,1,1,1,3,1,1,1,1,1,1,1]) (tr:=[.auto,.reg [],.dec true,.reg [.none,(.row t_30 (ARat.cells v))],.reg [.none,(.pv (vB val))],.dec false,.reg [.none,.none,.none,(.pv (vI cmp)),.none,.none,.none,.none,.none,(.pv (vI cmp1)),.none,(.dec false)],.dec false,dr 13 1 [.none,.none,.none,.none,.none,.none,.none,(iI ((t_30:Int)-1)),(.row k (ARat.cells v1)),.none,(.pv (vI cmp2)),.none,(.dec true)],.dec false,.reg [(iI (((t_30+1):Nat):Int))],.keep [0,4,5,28,29,30],.drop [10]]) (cj (dltN_t h1) (cj (o_at ARat.cells (Eq.refl (((t_30:Nat):Int):Int)) h2) (cj h3 (cj (bnot_f h4) (cj h5 (cj (dle_f h6) (cj (dle_f h6) (cj (dle_f h6) (cj (dle_f h6) (cj h7 (cj (dle_f h6) (cj (dle_f h6) (cj (dle_f h8) (cj (dltN_t h9) (cj (dltN_t h9) (cj (dltN_t h9) (cj (dltN_t h9) (cj (dltN_t h9) (cj (bs_sub h10) (cj (dltN_t h9) (cj (o_at ARat.cells h11 h12) (cj (dltN_t h9) (cj (dltN_t h9) (cj h13 (cj (dltN_t h9) (cj (dltN_t h9) (cj (dle_f h14) (cj (bs_addN h15) True.intro)))))))))))))))))))))))))))) (by kernel_rfl) hL
theorem l15(p:List ARat)(c:APosCert)(t_30:Nat)(rV:ARange)(v:ARat)(val:Bool)(cmp cmp1:Int){r:PV}(h1:t_30<c.cuts.length)(h2:c.cuts[t_30]? = some v)(h3:Contract prg 97 [v.pv] (vB val))(h4:val=true)(h5:Contract prg 29 [v.pv,rV.lo.pv] (vI cmp))(h6:0<cmp)(h7:Contract prg 29 [v.pv,rV.hi.pv] (vI cmp1))(h8:cmp1<0)(h9:t_30≤0)(h10:(t_30+1)<9223372036854775808)(hL:Loop1 p c (t_30+1) rV r):Loop1 p c t_30 rV r :=
 L.go mixed tabOk (n:=189) (ns:=[1,3,1,1,1,1,1,1,1,1,1,1,1,1,1,1,1,1,1,1,1,1,1,1]) (tr:=[.auto,.reg [],.dec true,.reg [.none,(.row t_30 (ARat.cells v))],.reg [.none,(.pv (vB val))],.dec false,.reg [.none,.none,.none,(.pv (vI cmp)),.none,.none,.none,.none,.none,(.pv (vI cmp1)),.none,(.dec false)],.dec false,dr 13 1 [.none,.none,.none,.skip,.skip,.skip,.skip,.skip,.skip,.skip,.skip,.skip,(.dec false)],.auto,.reg [(iI (((t_30+1):Nat):Int))],.keep [0,4,5,28,29,30],.drop [10]]) (cj (dltN_t h1) (cj (o_at ARat.cells (Eq.refl (((t_30:Nat):Int):Int)) h2) (cj h3 (cj (bnot_f h4) (cj h5 (cj (dle_f h6) (cj (dle_f h6) (cj (dle_f h6) (cj (dle_f h6) (cj h7 (cj (dle_f h6) (cj (dle_f h6) (cj (dle_f h8) (cj (dltN_f h9) (cj (dltN_f h9) (cj (dltN_f h9) (cj (dltN_f h9) (cj (dltN_f h9) (cj (dltN_f h9) (cj (dltN_f h9) (cj (dltN_f h9) (cj (dltN_f h9) (cj (dltN_f h9) (cj (bs_addN h10) True.intro)))))))))))))))))))))))) (by kernel_rfl) hL
theorem l16_any0(p:List ARat)(c:APosCert)(rV:ARange):anyL prg tab fn.ntmps (opsAt (focus [0,2,0,0,2,0,2,1,2,0,0,2,1,2,0,0,2,0,0,0,0,2,0,1,2,2,2,2,0,2,0,0] [.code (bodyOf fn)])) (downs (opsAt (focus [0,2,0,0,2,0,2,1,2,0,0,2,1,2,0,0,2,0,0,0,0,2,0,1,2,2,2,2,0,2,0,0] [.code (bodyOf fn)]))) [.none,.none,.none,(.app (c.cuts:List ARat).length ((c.cuts:List ARat).map ARat.cells).flatten),.none,.none,.none,(.app ((c.cuts++[rV.hi]):List ARat).length (((c.cuts++[rV.hi]):List ARat).map ARat.cells).flatten),.none,.none] ⟨[(0,(.pv (polyPV p))),(4,(.ptr 4 0)),(5,(.ptr 5 0)),(11,(.ptr 11 0))],[(11,(.lit [(eB rV.lo.neg),(.pv (wordsPV rV.lo.num)),(.pv (wordsPV rV.lo.den))])),(4,(.lit [(eB rV.lo.neg),(.pv (wordsPV rV.lo.num)),(.pv (wordsPV rV.lo.den)),(eB rV.hi.neg),(.pv (wordsPV rV.hi.num)),(.pv (wordsPV rV.hi.den))])),(5,(.lit [(.pv (polyPV c.cuts))]))]⟩=anyR prg tab fn.ntmps (opsAt (focus [0,2,0,0,2,0,2,1,2,0,0,2,1,2,0,0,2,0,0,0,0,2,0,1,2,2,2,2,0,2,0,0] [.code (bodyOf fn)])) (downs (opsAt (focus [0,2,0,0,2,0,2,1,2,0,0,2,1,2,0,0,2,0,0,0,0,2,0,1,2,2,2,2,0,2,0,0] [.code (bodyOf fn)]))) [.none,.none,.none,(.app (c.cuts:List ARat).length ((c.cuts:List ARat).map ARat.cells).flatten),.none,.none,.none,(.app ((c.cuts++[rV.hi]):List ARat).length (((c.cuts++[rV.hi]):List ARat).map ARat.cells).flatten),.none,.none] ⟨[(0,(.pv (polyPV p))),(4,(.ptr 4 0)),(5,(.ptr 5 0)),(11,(.ptr 11 0))],[(11,(.lit [(eB rV.lo.neg),(.pv (wordsPV rV.lo.num)),(.pv (wordsPV rV.lo.den))])),(4,(.lit [(eB rV.lo.neg),(.pv (wordsPV rV.lo.num)),(.pv (wordsPV rV.lo.den)),(eB rV.hi.neg),(.pv (wordsPV rV.hi.num)),(.pv (wordsPV rV.hi.den))])),(5,(.lit [(.pv (polyPV c.cuts))]))]⟩:=by kernel_rfl
theorem l16(p:List ARat)(c:APosCert)(t_30:Nat)(rV:ARange){r:PV}(h1:c.cuts.length≤t_30)(h2:(([]:List ARat)++c.cuts:List ARat).length*56≤140737488355328)(h3:((c.cuts++[rV.hi]):List ARat).length*56≤140737488355328)(hL:Loop2 p c rV 0 rV.lo r):Loop1 p c t_30 rV r :=
 L.go mixed tabOk (n:=165) (ns:=[1,6,6,1]) (tr:=[.auto,.reg [],.dec false,.reg [],.keep [0,4,5,11],.any [.none,.none,.none,(.app (c.cuts:List ARat).length ((c.cuts:List ARat).map ARat.cells).flatten),.none,.none,.none,(.app ((c.cuts++[rV.hi]):List ARat).length (((c.cuts++[rV.hi]):List ARat).map ARat.cells).flatten),.none,.none],.keep [0,11,79,80,81],.drop [78,4,5],.ord [11,79]]) (cj (dltN_f h1) (cj (o_appL sz_ARat ([]:List ARat) (c.cuts:List ARat) 56 (Eq.refl ([]:List ARat).length) h2 rfl) (cj (o_appR sz_ARat (c.cuts:List ARat) ([rV.hi]:List ARat) 56 (Eq.refl (c.cuts:List ARat).length) (Eq.refl ([rV.hi]:List ARat).length) h3 rfl) (cj (l16_any0 p c rV) True.intro)))) (by kernel_rfl) hL
theorem l20(p:List ARat)(c:APosCert)(rV:ARange)(t_81:Nat)(site_11 v:ARat)(cle:Bool)(h1:t_81<(c.cuts++[rV.hi]).length)(h2:(c.cuts++[rV.hi])[t_81]? = some v)(h3:Contract prg 98 [(polyPV p),(⟨site_11,v⟩:ARange).pv] (.tup [(vB cle),.nilI]))(h4:cle=false):Loop2 p c rV t_81 site_11 (.tup [(vB false),.nilI]) :=
 L.done mixed tabOk (n:=219) (ns:=[1,2,2,1,1,1,1]) (tr:=[.auto,.reg [],.dec true,.reg [(.nat t_81),(.seg [(vB v.neg),(wordsPV v.num),(wordsPV v.den)])],.reg [.none,.none,.none,.none,(.pv (.tup [(vB cle),.nilI]))],.reg [],.dec true,.reg []]) (cj (dltN_t h1) (cj (cj (Eq.refl (((t_81:Nat):Int):Int)) h1) (cj (o_seg sz_ARat h2) (cj h3 (cj (Eq.refl false) (cj (Eq.refl false) (cj (bnot_t h4) True.intro))))))) (by kernel_rfl)
theorem l21(p:List ARat)(c:APosCert)(rV:ARange)(t_81:Nat)(site_11 v:ARat)(cle:Bool){r:PV}(h1:t_81<(c.cuts++[rV.hi]).length)(h2:(c.cuts++[rV.hi])[t_81]? = some v)(h3:Contract prg 98 [(polyPV p),(⟨site_11,v⟩:ARange).pv] (.tup [(vB cle),.nilI]))(h4:cle=true)(h5:(t_81+1)<9223372036854775808)(hL:Loop2 p c rV (t_81+1) v r):Loop2 p c rV t_81 site_11 r :=
 L.go mixed tabOk (n:=225) (ns:=[1,2,2,1,1,1,1,1]) (tr:=[.auto,.reg [],.dec true,.reg [(.nat t_81),(.seg [(vB v.neg),(wordsPV v.num),(wordsPV v.den)])],.reg [.none,.none,.none,.none,(.pv (.tup [(vB cle),.nilI]))],.reg [],.dec false,.reg [],.reg [(iI (((t_81+1):Nat):Int))],.keep [0,11,79,80,81],.drop [13]]) (cj (dltN_t h1) (cj (cj (Eq.refl (((t_81:Nat):Int):Int)) h1) (cj (o_seg sz_ARat h2) (cj h3 (cj (Eq.refl false) (cj (Eq.refl false) (cj (bnot_f h4) (cj (bs_addN h5) True.intro)))))))) (by kernel_rfl) hL
theorem l23(p:List ARat)(c:APosCert)(rV:ARange)(t_81:Nat)(site_11:ARat)(h1:(c.cuts++[rV.hi]).length≤t_81):Loop2 p c rV t_81 site_11 (.tup [(vB true),.nilI]) :=
 L.done mixed tabOk (n:=198) (ns:=[1]) (tr:=[.auto,.reg [],.dec false,.reg []]) (cj (dltN_f h1) True.intro) (by kernel_rfl)
end positive_Verify
namespace positive_Make
theorem e3(p:List ARat)(rV:ARange)(depth:Int)(dec:Bool)(z:List ARat)(h1:Contract prg 75 [(polyPV p),rV.pv] .nilI)(h2:0≤depth)(h3:depth≤8)(h4:Contract prg 77 [(polyPV p),rV.pv] (.tup [(vB dec),.nilI]))(h5:dec=true)(h6:ContractX prg 101 [.pv .nilS,.pv (polyPV p),.pv rV.pv,.pv (vI depth)] [] (.rowT 0 0 z.length 3 [.nilI]) [(0,(.pure ((z:List ARat).map ARat.cells).flatten))]):Contract prg 37 [(polyPV p),rV.pv,(vI depth)] (.tup [(⟨z⟩:APosCert).pv,.nilI]) :=
 Contract.ofL Tryz.func37 (by kernel_rfl) (L.done mixed tabOk (n:=165) (ns:=[1,1,1,1,1,1,1,1,3]) (tr:=[.reg [],.reg [.none,.none,(.pv .nilI)],.reg [],.auto,.reg [.none,.none,.none,.none,.none,(.dec false)],.dec false,.reg [.none,.none,(.pv (.tup [(vB dec),.nilI]))],.reg [],.auto,.reg [],.dec false,.reg [.none,.none,.none,(.callX [] (some (0,45)) (.rowT 0 0 z.length 3 [.nilI]) [(0,(.pure ((z:List ARat).map ARat.cells).flatten))])],.reg [],.auto,.frzT 11 ((z:List ARat).map ARat.cells),.reg []]) (cj h1 (cj (dlt_f h2) (cj (dlt_f h2) (cj (dlt_f h2) (cj (dlt_f h3) (cj h4 (cj (bnot_f h5) (cj h6 (cj (o_frz sz_ARat (z:List ARat) (Eq.refl (z:List ARat).length)) True.intro))))))))) (by kernel_rfl))
end positive_Make
namespace positive_check
theorem e0(p:List ARat)(rV:ARange)(val:Bool)(h1:Contract prg 78 [(polyPV p)] .nilI)(h2:Contract prg 155 [rV.pv] (vB val))(h3:val=false):Contract prg 75 [(polyPV p),rV.pv] (.iface 94 (vI 3)) :=
 Contract.ofL Tryz.func75 (by kernel_rfl) (L.done mixed tabOk (n:=105) (ns:=[1,1,1]) (tr:=[.reg [],.reg [.none,(.pv .nilI)],.reg [],.auto,.reg [.none,(.pv (vB val))],.dec true,.reg []]) (cj h1 (cj h2 (cj (bnot_t h3) True.intro))) (by kernel_rfl))
theorem e1(p:List ARat)(rV:ARange)(val:Bool)(h1:Contract prg 78 [(polyPV p)] .nilI)(h2:Contract prg 155 [rV.pv] (vB val))(h3:val=true):Contract prg 75 [(polyPV p),rV.pv] .nilI :=
 Contract.ofL Tryz.func75 (by kernel_rfl) (L.done mixed tabOk (n:=108) (ns:=[1,1,1]) (tr:=[.reg [],.reg [.none,(.pv .nilI)],.reg [],.auto,.reg [.none,(.pv (vB val))],.dec false,.reg []]) (cj h1 (cj h2 (cj (bnot_f h3) True.intro))) (by kernel_rfl))
theorem e2(p:List ARat)(rV:ARange)(che:Int)(h1:Contract prg 78 [(polyPV p)] (.iface 94 (vI che))):Contract prg 75 [(polyPV p),rV.pv] (.iface 94 (vI che)) :=
 Contract.ofL Tryz.func75 (by kernel_rfl) (L.done mixed tabOk (n:=90) (ns:=[1]) (tr:=[.reg [],.reg [.none,(.pv (.iface 94 (vI che)))],.reg [],.auto,.reg []]) (cj h1 True.intro) (by kernel_rfl))
end positive_check
namespace positive_bernstein
@[reducible] noncomputable def fn:Func:=Tryz.f76
noncomputable def atK1:List Itm:=focus [0,2,0,0,2,1,2,0,2,0,0,2,1,2,0,2,0,2,0,0,2,0,0] [.code (bodyOf fn)]
def inv1(com:List ARat)(deg:Int)(site_87:List ARat)(t_37:Nat):St:=⟨[(6,(.pv (polyPV com))),(8,(eI deg)),(9,(.row 87 0 site_87.length 3)),(36,(eI (deg+1))),(37,(eI (t_37:Int)))],[(87,(.pure ((site_87:List ARat).map ARat.cells).flatten))]⟩
@[reducible] noncomputable def Loop1(com:List ARat)(deg:Int)(site_87:List ARat)(t_37:Nat)(r:PV):Prop:=L prg fn atK1 (inv1 com deg site_87 t_37) r
noncomputable def atK2:List Itm:=focus [0,2,0,0,2,1,2,0,2,0,0,2,1,2,0,2,0,2,0,0,2,0,0,0,0,2,0,0,2,0,0,0,2,0,2,0,0,2,0,0] [.code (bodyOf fn)]
def inv2(com:List ARat)(deg:Int)(site_87:List ARat)(j_10 t_37 t_44 t_45:Nat)(site_11:ARat):St:=⟨[(6,(.pv (polyPV com))),(8,(eI deg)),(9,(.row 87 0 site_87.length 3)),(10,(eI (j_10:Int))),(11,(.ptr 11 0)),(36,(eI (deg+1))),(37,(eI (t_37:Int))),(44,(eI (t_44:Int))),(45,(eI (t_45:Int)))],[(11,(.lit [(eB site_11.neg),(.pv (wordsPV site_11.num)),(.pv (wordsPV site_11.den))])),(87,(.pure ((site_87:List ARat).map ARat.cells).flatten))]⟩
@[reducible] noncomputable def Loop2(com:List ARat)(deg:Int)(site_87:List ARat)(j_10 t_37 t_44 t_45:Nat)(site_11:ARat)(r:PV):Prop:=L prg fn atK2 (inv2 com deg site_87 j_10 t_37 t_44 t_45 site_11) r
theorem e0(p:List ARat)(rV:ARange)(h1:p.length=0):Contract prg 76 [(polyPV p),rV.pv] (.tup [(polyPV []),.nilI]) :=
 Contract.ofL Tryz.func76 (by kernel_rfl) (L.done mixed tabOk (n:=84) (ns:=[1,1]) (tr:=[.reg [],.reg [.none,(iI (p.length:Int))],.dec true,.reg []]) (cj (o_len ARat.cells p) (cj (deqN_t h1) True.intro)) (by kernel_rfl))
theorem e1(p:List ARat)(rV:ARange)(wid:ARat)(tri com:List ARat)(deg:Int){r:PV}(h1:p.length≠0)(h2:Contract prg 156 [rV.pv] wid.pv)(h3:Contract prg 148 [(polyPV [rV.lo,wid])] (polyPV tri))(h4:Contract prg 150 [(polyPV p),(polyPV tri)] (.tup [(polyPV com),.nilI]))(h5:Contract prg 157 [(polyPV p)] (vI deg))(h6:InI64 (deg+1))(hL:Loop1 com deg [] 0 r):Contract prg 76 [(polyPV p),rV.pv] r :=
 Contract.ofL Tryz.func76 (by kernel_rfl) (L.go mixed tabOk (n:=129) (ns:=[1,1,1,3,1,1,1,1]) (tr:=[.reg [],.reg [.none,(iI (p.length:Int))],.dec false,dr 12 1 [.none,.none,.none,.none,(.pv wid.pv),(.slc 0 0 (([rV.lo,wid]:List ARat).map ARat.cells)),(.pv (polyPV tri)),(.pv (.tup [(polyPV com),.nilI]))],.reg [],.auto,.reg [.none,(.pv (vI deg))],.reg [.nil],.adopt 9 87 3,.reg [.none,(iI (deg+1))],.keep [6,8,9,36,37],.drop [3]]) (cj (o_len ARat.cells p) (cj (deqN_f h1) (cj h2 (cj (o_bs sz_ARat ([rV.lo,wid]:List ARat)) (cj h3 (cj h4 (cj h5 (cj (bs_add h6) True.intro)))))))) (by kernel_rfl) hL)
theorem l10(com:List ARat)(deg:Int)(site_87:List ARat)(t_37:Nat){r:PV}(h1:(t_37:Int)<(deg+1))(h2:(t_37+1)<9223372036854775808)(hL:Loop2 com deg site_87 t_37 t_37 (min (t_37+1) com.length) 0 (⟨false,[],[]⟩:ARat) r):Loop1 com deg site_87 t_37 r :=
 L.go mixed tabOk (n:=180) (ns:=[1,1,1,1]) (tr:=[.auto,.reg [],.dec true,.reg [],.reg [],.reg [.none,(iI (((t_37+1):Nat):Int)),.none,(iI (com.length:Int)),(iI (((min (t_37+1) com.length):Nat):Int))],.keep [6,8,9,10,11,36,37,44,45]]) (cj (dlt_t h1) (cj (bs_addN h2) (cj (o_len ARat.cells com) (cj (o_minN (t_37+1) com.length) True.intro)))) (by kernel_rfl) hL
theorem l11(com:List ARat)(deg:Int)(site_87:List ARat)(t_37:Nat)(h1:(deg+1)≤(t_37:Int)):Loop1 com deg site_87 t_37 (.tup [(polyPV site_87),.nilI]) :=
 L.done mixed tabOk (n:=162) (ns:=[1,3]) (tr:=[.auto,.reg [],.dec false,.reg [],.frzT 4 ((site_87:List ARat).map ARat.cells)]) (cj (dlt_f h1) (cj (o_frz sz_ARat (site_87:List ARat) (Eq.refl (site_87:List ARat).length)) True.intro)) (by kernel_rfl)
theorem l20(com:List ARat)(deg:Int)(site_87:List ARat)(j_10 t_37 t_44 t_45:Nat)(site_11 cho cho2 div v mul add:ARat){r:PV}(h1:t_45<t_44)(h2:Contract prg 158 [(vI (j_10:Int)),(vI (t_45:Int))] (.tup [cho.pv,.nilI]))(h3:Contract prg 158 [(vI deg),(vI (t_45:Int))] (.tup [cho2.pv,.nilI]))(h4:Contract prg 109 [cho.pv,cho2.pv] (.tup [div.pv,.nilI]))(h5:com[t_45]? = some v)(h6:Contract prg 85 [div.pv,v.pv] mul.pv)(h7:Contract prg 63 [site_11.pv,mul.pv] add.pv)(h8:(t_45+1)<9223372036854775808)(hL:Loop2 com deg site_87 j_10 t_37 t_44 (t_45+1) add r):Loop2 com deg site_87 j_10 t_37 t_44 t_45 site_11 r :=
 L.go mixed tabOk (n:=282) (ns:=[1,1,1,1,3,1,1,1]) (tr:=[.auto,.reg [],.dec true,.reg [],.reg [.none,.none,(.pv (.tup [cho.pv,.nilI]))],.reg [],.auto,.reg [.none,.none,(.pv (.tup [cho2.pv,.nilI]))],.reg [],.auto,.reg [.none,.none,(.pv (.tup [div.pv,.nilI]))],.reg [],.auto,dr 8 1 [.none,.none,.none,.none,(.row t_45 (ARat.cells v)),.none,(.pv mul.pv),(.pv add.pv)],.reg [(iI (((t_45+1):Nat):Int))],.keep [6,8,9,10,11,36,37,44,45],.drop [15,13]]) (cj (dltN_t h1) (cj h2 (cj h3 (cj h4 (cj (o_at ARat.cells (Eq.refl (((t_45:Nat):Int):Int)) h5) (cj h6 (cj h7 (cj (bs_addN h8) True.intro)))))))) (by kernel_rfl) hL
theorem l24(com:List ARat)(deg:Int)(site_87:List ARat)(j_10 t_37 t_44 t_45:Nat)(site_11:ARat){r:PV}(h1:t_44≤t_45)(h2:((site_87++[site_11]):List ARat).length*56≤140737488355328)(h3:(t_37+1)<9223372036854775808)(hL:Loop1 com deg (site_87++[site_11]) (t_37+1) r):Loop2 com deg site_87 j_10 t_37 t_44 t_45 site_11 r :=
 L.go mixed tabOk (n:=216) (ns:=[1,6,1]) (tr:=[.auto,.reg [],.dec false,.reg [.none,.none,.none,(.app ((site_87++[site_11]):List ARat).length (((site_87++[site_11]):List ARat).map ARat.cells).flatten)],.reg [(iI (((t_37+1):Nat):Int))],.keep [6,8,9,36,37],.drop [86,11]]) (cj (dltN_f h1) (cj (o_appR sz_ARat (site_87:List ARat) ([site_11]:List ARat) 56 (Eq.refl (site_87:List ARat).length) (Eq.refl ([site_11]:List ARat).length) h2 rfl) (cj (bs_addN h3) True.intro))) (by kernel_rfl) hL
end positive_bernstein
namespace positive_decide
theorem e0(p:List ARat)(rV:ARange)(eva:ARat)(sig:Int)(h1:Contract prg 27 [(polyPV p),rV.lo.pv] (.tup [eva.pv,.nilI]))(h2:Contract prg 39 [eva.pv] (vI sig))(h3:sig≤0):Contract prg 77 [(polyPV p),rV.pv] (.tup [(vB false),.nilI]) :=
 Contract.ofL Tryz.func77 (by kernel_rfl) (L.done mixed tabOk (n:=90) (ns:=[1,1,1,1,1,1]) (tr:=[.reg [],.reg [.none,.none,.none,(.pv (.tup [eva.pv,.nilI]))],.reg [.none,.none,.none,.none,(.pv (vI sig))],.dec true,.reg []]) (cj h1 (cj (Eq.refl false) (cj (Eq.refl false) (cj h2 (cj (Eq.refl false) (cj (dle_t h3) True.intro)))))) (by kernel_rfl))
theorem e1(p:List ARat)(rV:ARange)(eva:ARat)(sig cou:Int)(cou1:Option Int)(h1:Contract prg 27 [(polyPV p),rV.lo.pv] (.tup [eva.pv,.nilI]))(h2:Contract prg 39 [eva.pv] (vI sig))(h3:0<sig)(h4:Contract prg 159 [(polyPV p),rV.lo.pv,rV.hi.pv] (.tup [(vI cou),(errPV cou1)])):Contract prg 77 [(polyPV p),rV.pv] (.tup [(vB (cou==0)),(errPV cou1)]) :=
 Contract.ofL Tryz.func77 (by kernel_rfl) (L.done mixed tabOk (n:=99) (ns:=[1,1,1,1,1,1,1]) (tr:=[.reg [],.reg [.none,.none,.none,(.pv (.tup [eva.pv,.nilI]))],.reg [.none,.none,.none,.none,(.pv (vI sig))],.dec false,.reg [.none,.none,.none,.none,.none,(.pv (.tup [(vI cou),(errPV cou1)]))],.reg []]) (cj h1 (cj (Eq.refl false) (cj (Eq.refl false) (cj h2 (cj (Eq.refl false) (cj (dle_f h3) (cj h4 True.intro))))))) (by kernel_rfl))
end positive_decide
namespace linkworkref31_Error
theorem e0(p:List ARat)(rV:ARange)(che:Int)(h1:Contract prg 83 [(polyPV p)] (vI che))(h2:che≠0):Contract prg 80 [(polyPV p),rV.pv] (vI che) :=
 Contract.ofL Tryz.func80 (by kernel_rfl) (L.done mixed tabOk (n:=90) (ns:=[1,1]) (tr:=[.reg [],.reg [.none,(.pv (vI che))],.reg [],.dec true,.reg []]) (cj h1 (cj (dne_t h2) True.intro)) (by kernel_rfl))
theorem e1(p:List ARat)(rV:ARange)(che:Int)(val:Bool)(h1:Contract prg 83 [(polyPV p)] (vI che))(h2:che=0)(h3:Contract prg 161 [rV.pv] (vB val))(h4:val=false):Contract prg 80 [(polyPV p),rV.pv] (vI 3) :=
 Contract.ofL Tryz.func80 (by kernel_rfl) (L.done mixed tabOk (n:=105) (ns:=[1,1,1,1]) (tr:=[.reg [],.reg [.none,(.pv (vI che))],.reg [],.dec false,.reg [.none,(.pv (vB val))],.dec true,.reg []]) (cj h1 (cj (dne_f h2) (cj h3 (cj (bnot_t h4) True.intro)))) (by kernel_rfl))
theorem e2(p:List ARat)(rV:ARange)(che:Int)(val:Bool)(h1:Contract prg 83 [(polyPV p)] (vI che))(h2:che=0)(h3:Contract prg 161 [rV.pv] (vB val))(h4:val=true):Contract prg 80 [(polyPV p),rV.pv] (vI 0) :=
 Contract.ofL Tryz.func80 (by kernel_rfl) (L.done mixed tabOk (n:=108) (ns:=[1,1,1,1]) (tr:=[.reg [],.reg [.none,(.pv (vI che))],.reg [],.dec false,.reg [.none,(.pv (vB val))],.dec false,.reg []]) (cj h1 (cj (dne_f h2) (cj h3 (cj (bnot_f h4) True.intro)))) (by kernel_rfl))
end linkworkref31_Error
namespace positive_clear
@[reducible] noncomputable def fn:Func:=Tryz.f98
noncomputable def atK1:List Itm:=focus [0,2,0,2,0,0,2,1,2,0,0,2,0,0] [.code (bodyOf fn)]
def inv1(ber:List ARat)(t_26:Nat):St:=⟨[(6,(.pv (polyPV ber))),(24,(.pv (polyPV ber))),(25,(eI (ber.length:Int))),(26,(eI (t_26:Int)))],[]⟩
@[reducible] noncomputable def Loop1(ber:List ARat)(t_26:Nat)(r:PV):Prop:=L prg fn atK1 (inv1 ber t_26) r
theorem e0(p:List ARat)(rV:ARange)(ber:List ARat)(h1:Contract prg 76 [(polyPV p),rV.pv] (.tup [(polyPV ber),.nilI]))(h2:ber.length=0):Contract prg 98 [(polyPV p),rV.pv] (.tup [(vB false),.nilI]) :=
 Contract.ofL Tryz.func98 (by kernel_rfl) (L.done mixed tabOk (n:=90) (ns:=[1,1,1,1,1,1]) (tr:=[.reg [],.reg [.none,.none,(.pv (.tup [(polyPV ber),.nilI]))],.reg [.none,.none,.none,.none,(iI (ber.length:Int))],.dec true,.reg []]) (cj h1 (cj (Eq.refl false) (cj (Eq.refl false) (cj (o_len ARat.cells ber) (cj (Eq.refl false) (cj (deqN_t h2) True.intro)))))) (by kernel_rfl))
theorem e1(p:List ARat)(rV:ARange)(ber:List ARat){r:PV}(h1:Contract prg 76 [(polyPV p),rV.pv] (.tup [(polyPV ber),.nilI]))(h2:ber.length≠0)(hL:Loop1 ber 0 r):Contract prg 98 [(polyPV p),rV.pv] r :=
 Contract.ofL Tryz.func98 (by kernel_rfl) (L.go mixed tabOk (n:=102) (ns:=[1,1,1,1,1,1,1]) (tr:=[.reg [],.reg [.none,.none,(.pv (.tup [(polyPV ber),.nilI]))],.reg [.none,.none,.none,.none,(iI (ber.length:Int))],.dec false,.reg [.none,(iI (ber.length:Int))],.keep [6,24,25,26],.drop [3]]) (cj h1 (cj (Eq.refl false) (cj (Eq.refl false) (cj (o_len ARat.cells ber) (cj (Eq.refl false) (cj (deqN_f h2) (cj (o_len ARat.cells ber) True.intro))))))) (by kernel_rfl) hL)
theorem l10(ber:List ARat)(t_26:Nat)(v:ARat)(sig:Int)(h1:t_26<ber.length)(h2:ber[t_26]? = some v)(h3:Contract prg 39 [v.pv] (vI sig))(h4:sig<0):Loop1 ber t_26 (.tup [(vB false),.nilI]) :=
 L.done mixed tabOk (n:=147) (ns:=[1,3,1,1]) (tr:=[.auto,.reg [],.dec true,.reg [(.row t_26 (ARat.cells v))],.reg [.none,(.pv (vI sig))],.dec true,.reg []]) (cj (dltN_t h1) (cj (o_at ARat.cells (Eq.refl (((t_26:Nat):Int):Int)) h2) (cj h3 (cj (dlt_t h4) True.intro)))) (by kernel_rfl)
theorem l11(ber:List ARat)(t_26:Nat)(v:ARat)(sig:Int){r:PV}(h1:t_26<ber.length)(h2:ber[t_26]? = some v)(h3:Contract prg 39 [v.pv] (vI sig))(h4:0≤sig)(h5:(t_26+1)<9223372036854775808)(hL:Loop1 ber (t_26+1) r):Loop1 ber t_26 r :=
 L.go mixed tabOk (n:=150) (ns:=[1,3,1,1,1]) (tr:=[.auto,.reg [],.dec true,.reg [(.row t_26 (ARat.cells v))],.reg [.none,(.pv (vI sig))],.dec false,.reg [(iI (((t_26+1):Nat):Int))],.keep [6,24,25,26],.drop [9]]) (cj (dltN_t h1) (cj (o_at ARat.cells (Eq.refl (((t_26:Nat):Int):Int)) h2) (cj h3 (cj (dlt_f h4) (cj (bs_addN h5) True.intro))))) (by kernel_rfl) hL
theorem l12(ber:List ARat)(t_26:Nat)(v:ARat)(sig:Int)(k:Nat)(v1:ARat)(sig1:Int)(h1:ber.length≤t_26)(h2:ber[0]? = some v)(h3:Contract prg 39 [v.pv] (vI sig))(h4:0<sig)(h5:InI64 ((ber.length:Int)-1))(h6:((ber.length:Int)-1)=(k:Int))(h7:ber[k]? = some v1)(h8:Contract prg 39 [v1.pv] (vI sig1)):Loop1 ber t_26 (.tup [(vB (decide (sig1>0))),.nilI]) :=
 L.done mixed tabOk (n:=135) (ns:=[1,3,1,1,1,1,1,1,1,1,3,1,1,1,1,1]) (tr:=[.auto,.reg [],.dec false,.reg [.none,(.row 0 (ARat.cells v)),.none,(.pv (vI sig)),.none,.none,.none,.none,(iI (ber.length:Int)),(iI ((ber.length:Int)-1)),(.row k (ARat.cells v1)),.none,(.pv (vI sig1)),.none,(.dec true)]]) (cj (dltN_f h1) (cj (o_at ARat.cells (Eq.refl (0:Int)) h2) (cj h3 (cj (dlt_t h4) (cj (dlt_t h4) (cj (dlt_t h4) (cj (o_len ARat.cells ber) (cj (dlt_t h4) (cj (bs_sub h5) (cj (dlt_t h4) (cj (o_at ARat.cells h6 h7) (cj (dlt_t h4) (cj (dlt_t h4) (cj h8 (cj (dlt_t h4) (cj (dlt_t h4) True.intro)))))))))))))))) (by kernel_rfl)
theorem l13(ber:List ARat)(t_26:Nat)(v:ARat)(sig:Int)(h1:ber.length≤t_26)(h2:ber[0]? = some v)(h3:Contract prg 39 [v.pv] (vI sig))(h4:sig≤0):Loop1 ber t_26 (.tup [(vB false),.nilI]) :=
 L.done mixed tabOk (n:=135) (ns:=[1,3,1,1,1,1,1,1,1,1,1,1]) (tr:=[.auto,.reg [],.dec false,.reg [.none,(.row 0 (ARat.cells v)),.none,(.pv (vI sig)),.none,.none,.skip,.skip,.skip,.skip,.skip,.skip,.skip,.skip,(.dec false)]]) (cj (dltN_f h1) (cj (o_at ARat.cells (Eq.refl (0:Int)) h2) (cj h3 (cj (dlt_f h4) (cj (dlt_f h4) (cj (dlt_f h4) (cj (dlt_f h4) (cj (dlt_f h4) (cj (dlt_f h4) (cj (dlt_f h4) (cj (dlt_f h4) (cj (dlt_f h4) True.intro)))))))))))) (by kernel_rfl)
end positive_clear
namespace positive_cutN
@[reducible] noncomputable def fn:Func:=Tryz.f101
theorem e0(p:List ARat)(rV:ARange)(depth:Int)(cle:Bool)(h1:Contract prg 98 [(polyPV p),rV.pv] (.tup [(vB cle),.nilI]))(h2:cle=true):ContractX prg 101 [(.pv .nilS),(.pv (polyPV p)),(.pv rV.pv),(eI depth)] [] (.rowT 0 0 0 3 [.nilI]) [(0,(.pure (([]:List ARat).map ARat.cells).flatten))] :=
 ContractX.ofL Tryz.func101 (by kernel_rfl) (LX.done mixed tabOk (n:=90) (ns:=[1,1,1]) (tr:=[.adopt 0 1 3,.reg [],.reg [.none,.none,(.pv (.tup [(vB cle),.nilI]))],.reg [],.dec true,.reg [],.ren 1 0,.drop [6],.ord [0]]) rfl (cj h1 (cj (Eq.refl false) (cj h2 True.intro))) (by kernel_rfl))
theorem e1(p:List ARat)(rV:ARange)(depth:Int)(cle:Bool)(h1:Contract prg 98 [(polyPV p),rV.pv] (.tup [(vB cle),.nilI]))(h2:cle=false)(h3:depth=0):ContractX prg 101 [(.pv .nilS),(.pv (polyPV p)),(.pv rV.pv),(eI depth)] [] (.rowT 0 0 0 3 [(.iface 94 (vI 15))]) [(0,(.pure (([]:List ARat).map ARat.cells).flatten))] :=
 ContractX.ofL Tryz.func101 (by kernel_rfl) (LX.done mixed tabOk (n:=105) (ns:=[1,1,1,1]) (tr:=[.adopt 0 1 3,.reg [],.reg [.none,.none,(.pv (.tup [(vB cle),.nilI]))],.reg [],.dec false,.reg [],.dec true,.reg [.none,.nil],.adopt 8 0 3,.drop [6,1],.ord [0]]) rfl (cj h1 (cj (Eq.refl false) (cj h2 (cj (deq_t h3) True.intro)))) (by kernel_rfl))
theorem e2_any0(p:List ARat)(rV:ARange)(depth:Int)(mid:ARat)(z z1:List ARat)(cut1:Option Int):anyL prg tab fn.ntmps (opsAt (focus [0,2,0,2,0,0,2,1,2,0,0,2,1,2,0,2,0,0,2,0,2,1,2,0] [.code (bodyOf fn)])) (downs (opsAt (focus [0,2,0,2,0,0,2,1,2,0,0,2,1,2,0,2,0,0,2,0,2,1,2,0] [.code (bodyOf fn)]))) [.none,.none,.none,(.app ((z++[mid]):List ARat).length (((z++[mid]):List ARat).map ARat.cells).flatten),.none,.none,.none,.none,.none,.none,(iI (depth-1)),(.callX [(49,200000)] (some (0,57)) (.rowT 0 0 z1.length 3 [(errPV cut1)]) [(0,(.pure ((z1:List ARat).map ARat.cells).flatten))]),.none,.none,.none,.none] ⟨[(0,(.row 40 0 z.length 3)),(1,(.pv (polyPV p))),(3,(eI depth)),(6,(.ptr 6 0)),(12,(.ptr 12 0))],[(40,(.pure ((z:List ARat).map ARat.cells).flatten)),(12,(.lit [(eB mid.neg),(.pv (wordsPV mid.num)),(.pv (wordsPV mid.den))])),(6,(.lit [(eB rV.lo.neg),(.pv (wordsPV rV.lo.num)),(.pv (wordsPV rV.lo.den)),(eB rV.hi.neg),(.pv (wordsPV rV.hi.num)),(.pv (wordsPV rV.hi.den))]))]⟩=anyR prg tab fn.ntmps (opsAt (focus [0,2,0,2,0,0,2,1,2,0,0,2,1,2,0,2,0,0,2,0,2,1,2,0] [.code (bodyOf fn)])) (downs (opsAt (focus [0,2,0,2,0,0,2,1,2,0,0,2,1,2,0,2,0,0,2,0,2,1,2,0] [.code (bodyOf fn)]))) [.none,.none,.none,(.app ((z++[mid]):List ARat).length (((z++[mid]):List ARat).map ARat.cells).flatten),.none,.none,.none,.none,.none,.none,(iI (depth-1)),(.callX [(49,200000)] (some (0,57)) (.rowT 0 0 z1.length 3 [(errPV cut1)]) [(0,(.pure ((z1:List ARat).map ARat.cells).flatten))]),.none,.none,.none,.none] ⟨[(0,(.row 40 0 z.length 3)),(1,(.pv (polyPV p))),(3,(eI depth)),(6,(.ptr 6 0)),(12,(.ptr 12 0))],[(40,(.pure ((z:List ARat).map ARat.cells).flatten)),(12,(.lit [(eB mid.neg),(.pv (wordsPV mid.num)),(.pv (wordsPV mid.den))])),(6,(.lit [(eB rV.lo.neg),(.pv (wordsPV rV.lo.num)),(.pv (wordsPV rV.lo.den)),(eB rV.hi.neg),(.pv (wordsPV rV.hi.num)),(.pv (wordsPV rV.hi.den))]))]⟩:=by kernel_rfl
theorem e2(p:List ARat)(rV:ARange)(depth:Int)(cle:Bool)(mid:ARat)(z z1:List ARat)(cut1:Option Int)(h1:Contract prg 98 [(polyPV p),rV.pv] (.tup [(vB cle),.nilI]))(h2:cle=false)(h3:depth≠0)(h4:Contract prg 183 [rV.pv] mid.pv)(h5:InI64 (depth-1))(h6:ContractX prg 101 [.row 200000 0 0 3,.pv (polyPV p),.pv (⟨rV.lo,mid⟩:ARange).pv,.pv (vI (depth-1))] [(200000,(.pure (([]:List ARat).map ARat.cells).flatten))] (.rowT 0 0 z.length 3 [.nilI]) [(0,(.pure ((z:List ARat).map ARat.cells).flatten))])(h7:((z++[mid]):List ARat).length*56≤140737488355328)(h8:ContractX prg 101 [.row 200000 0 ((z++[mid]).length) 3,.pv (polyPV p),.pv (⟨mid,rV.hi⟩:ARange).pv,.pv (vI (depth-1))] [(200000,(.pure (((z++[mid]):List ARat).map ARat.cells).flatten))] (.rowT 0 0 z1.length 3 [(errPV cut1)]) [(0,(.pure ((z1:List ARat).map ARat.cells).flatten))]):ContractX prg 101 [(.pv .nilS),(.pv (polyPV p)),(.pv rV.pv),(eI depth)] [] (.rowT 0 0 z1.length 3 [(errPV cut1)]) [(0,(.pure ((z1:List ARat).map ARat.cells).flatten))] :=
 ContractX.ofL Tryz.func101 (by kernel_rfl) (LX.done mixed tabOk (n:=135) (ns:=[1,1,1,1,1,1,1,6,1,1,1]) (tr:=[.adopt 0 1 3,.reg [],.reg [.none,.none,(.pv (.tup [(vB cle),.nilI]))],.reg [],.dec false,.reg [],.dec false,.reg [.none,(.pv mid.pv)],.reg [.none,.none,.none,.none,.none,.none,.none,(iI (depth-1)),(.callX [(1,200000)] (some (0,40)) (.rowT 0 0 z.length 3 [.nilI]) [(0,(.pure ((z:List ARat).map ARat.cells).flatten))])],.reg [],.auto,.keep [0,1,3,6,12],.any [.none,.none,.none,(.app ((z++[mid]):List ARat).length (((z++[mid]):List ARat).map ARat.cells).flatten),.none,.none,.none,.none,.none,.none,(iI (depth-1)),(.callX [(49,200000)] (some (0,57)) (.rowT 0 0 z1.length 3 [(errPV cut1)]) [(0,(.pure ((z1:List ARat).map ARat.cells).flatten))]),.none,.none,.none,.none],.ren 57 0,.drop [48,12,6],.ord [0]]) rfl (cj h1 (cj (Eq.refl false) (cj h2 (cj (deq_f h3) (cj h4 (cj (bs_sub h5) (cj h6 (cj (o_appR sz_ARat (z:List ARat) ([mid]:List ARat) 56 (Eq.refl (z:List ARat).length) (Eq.refl ([mid]:List ARat).length) h7 rfl) (cj (bs_sub h5) (cj h8 (cj (e2_any0 p rV depth mid z z1 cut1) True.intro))))))))))) (by kernel_rfl))
theorem e3(p:List ARat)(rV:ARange)(depth:Int)(cle:Bool)(mid:ARat)(z:List ARat)(cut:Int)(h1:Contract prg 98 [(polyPV p),rV.pv] (.tup [(vB cle),.nilI]))(h2:cle=false)(h3:depth≠0)(h4:Contract prg 183 [rV.pv] mid.pv)(h5:InI64 (depth-1))(h6:ContractX prg 101 [.row 200000 0 0 3,.pv (polyPV p),.pv (⟨rV.lo,mid⟩:ARange).pv,.pv (vI (depth-1))] [(200000,(.pure (([]:List ARat).map ARat.cells).flatten))] (.rowT 0 0 z.length 3 [(.iface 94 (vI cut))]) [(0,(.pure ((z:List ARat).map ARat.cells).flatten))]):ContractX prg 101 [(.pv .nilS),(.pv (polyPV p)),(.pv rV.pv),(eI depth)] [] (.rowT 0 0 0 3 [(.iface 94 (vI cut))]) [(0,(.pure (([]:List ARat).map ARat.cells).flatten))] :=
 ContractX.ofL Tryz.func101 (by kernel_rfl) (LX.done mixed tabOk (n:=132) (ns:=[1,1,1,1,1,1,1]) (tr:=[.adopt 0 1 3,.reg [],.reg [.none,.none,(.pv (.tup [(vB cle),.nilI]))],.reg [],.dec false,.reg [],.dec false,.reg [.none,(.pv mid.pv)],.reg [.none,.none,.none,.none,.none,.none,.none,(iI (depth-1)),(.callX [(1,200000)] (some (0,40)) (.rowT 0 0 z.length 3 [(.iface 94 (vI cut))]) [(0,(.pure ((z:List ARat).map ARat.cells).flatten))])],.reg [],.auto,.reg [.none,.nil],.adopt 8 0 3,.drop [40,12,6],.ord [0]]) rfl (cj h1 (cj (Eq.refl false) (cj h2 (cj (deq_f h3) (cj h4 (cj (bs_sub h5) (cj h6 True.intro))))))) (by kernel_rfl))
end positive_cutN
namespace positive_cutG
@[reducible] noncomputable def fn:Func:=Tryz.f101
theorem e0(out p:List ARat)(rV:ARange)(depth:Int)(cle:Bool)(h1:Contract prg 98 [(polyPV p),rV.pv] (.tup [(vB cle),.nilI]))(h2:cle=true):ContractX prg 101 [(.row 200000 0 out.length 3),(.pv (polyPV p)),(.pv rV.pv),(eI depth)] [(200000,(.pure ((out:List ARat).map ARat.cells).flatten))] (.rowT 0 0 out.length 3 [.nilI]) [(0,(.pure ((out:List ARat).map ARat.cells).flatten))] :=
 ContractX.ofL Tryz.func101 (by kernel_rfl) (LX.done mixed tabOk (n:=90) (ns:=[1,1,1]) (tr:=[.ren 200000 1,.reg [],.reg [.none,.none,(.pv (.tup [(vB cle),.nilI]))],.reg [],.dec true,.reg [],.ren 1 0,.drop [6],.ord [0]]) rfl (cj h1 (cj (Eq.refl false) (cj h2 True.intro))) (by kernel_rfl))
theorem e1(out p:List ARat)(rV:ARange)(depth:Int)(cle:Bool)(h1:Contract prg 98 [(polyPV p),rV.pv] (.tup [(vB cle),.nilI]))(h2:cle=false)(h3:depth=0):ContractX prg 101 [(.row 200000 0 out.length 3),(.pv (polyPV p)),(.pv rV.pv),(eI depth)] [(200000,(.pure ((out:List ARat).map ARat.cells).flatten))] (.rowT 0 0 0 3 [(.iface 94 (vI 15))]) [(0,(.pure (([]:List ARat).map ARat.cells).flatten))] :=
 ContractX.ofL Tryz.func101 (by kernel_rfl) (LX.done mixed tabOk (n:=105) (ns:=[1,1,1,1]) (tr:=[.ren 200000 1,.reg [],.reg [.none,.none,(.pv (.tup [(vB cle),.nilI]))],.reg [],.dec false,.reg [],.dec true,.reg [.none,.nil],.adopt 8 0 3,.drop [6,1],.ord [0]]) rfl (cj h1 (cj (Eq.refl false) (cj h2 (cj (deq_t h3) True.intro)))) (by kernel_rfl))
theorem e2_any0(p:List ARat)(rV:ARange)(depth:Int)(mid:ARat)(z z1:List ARat)(cut1:Option Int):anyL prg tab fn.ntmps (opsAt (focus [0,2,0,2,0,0,2,1,2,0,0,2,1,2,0,2,0,0,2,0,2,1,2,0] [.code (bodyOf fn)])) (downs (opsAt (focus [0,2,0,2,0,0,2,1,2,0,0,2,1,2,0,2,0,0,2,0,2,1,2,0] [.code (bodyOf fn)]))) [.none,.none,.none,(.app ((z++[mid]):List ARat).length (((z++[mid]):List ARat).map ARat.cells).flatten),.none,.none,.none,.none,.none,.none,(iI (depth-1)),(.callX [(49,200000)] (some (0,57)) (.rowT 0 0 z1.length 3 [(errPV cut1)]) [(0,(.pure ((z1:List ARat).map ARat.cells).flatten))]),.none,.none,.none,.none] ⟨[(0,(.row 40 0 z.length 3)),(1,(.pv (polyPV p))),(3,(eI depth)),(6,(.ptr 6 0)),(12,(.ptr 12 0))],[(40,(.pure ((z:List ARat).map ARat.cells).flatten)),(12,(.lit [(eB mid.neg),(.pv (wordsPV mid.num)),(.pv (wordsPV mid.den))])),(6,(.lit [(eB rV.lo.neg),(.pv (wordsPV rV.lo.num)),(.pv (wordsPV rV.lo.den)),(eB rV.hi.neg),(.pv (wordsPV rV.hi.num)),(.pv (wordsPV rV.hi.den))]))]⟩=anyR prg tab fn.ntmps (opsAt (focus [0,2,0,2,0,0,2,1,2,0,0,2,1,2,0,2,0,0,2,0,2,1,2,0] [.code (bodyOf fn)])) (downs (opsAt (focus [0,2,0,2,0,0,2,1,2,0,0,2,1,2,0,2,0,0,2,0,2,1,2,0] [.code (bodyOf fn)]))) [.none,.none,.none,(.app ((z++[mid]):List ARat).length (((z++[mid]):List ARat).map ARat.cells).flatten),.none,.none,.none,.none,.none,.none,(iI (depth-1)),(.callX [(49,200000)] (some (0,57)) (.rowT 0 0 z1.length 3 [(errPV cut1)]) [(0,(.pure ((z1:List ARat).map ARat.cells).flatten))]),.none,.none,.none,.none] ⟨[(0,(.row 40 0 z.length 3)),(1,(.pv (polyPV p))),(3,(eI depth)),(6,(.ptr 6 0)),(12,(.ptr 12 0))],[(40,(.pure ((z:List ARat).map ARat.cells).flatten)),(12,(.lit [(eB mid.neg),(.pv (wordsPV mid.num)),(.pv (wordsPV mid.den))])),(6,(.lit [(eB rV.lo.neg),(.pv (wordsPV rV.lo.num)),(.pv (wordsPV rV.lo.den)),(eB rV.hi.neg),(.pv (wordsPV rV.hi.num)),(.pv (wordsPV rV.hi.den))]))]⟩:=by kernel_rfl
theorem e2(out p:List ARat)(rV:ARange)(depth:Int)(cle:Bool)(mid:ARat)(z z1:List ARat)(cut1:Option Int)(h1:Contract prg 98 [(polyPV p),rV.pv] (.tup [(vB cle),.nilI]))(h2:cle=false)(h3:depth≠0)(h4:Contract prg 183 [rV.pv] mid.pv)(h5:InI64 (depth-1))(h6:ContractX prg 101 [.row 200000 0 out.length 3,.pv (polyPV p),.pv (⟨rV.lo,mid⟩:ARange).pv,.pv (vI (depth-1))] [(200000,(.pure ((out:List ARat).map ARat.cells).flatten))] (.rowT 0 0 z.length 3 [.nilI]) [(0,(.pure ((z:List ARat).map ARat.cells).flatten))])(h7:((z++[mid]):List ARat).length*56≤140737488355328)(h8:ContractX prg 101 [.row 200000 0 ((z++[mid]).length) 3,.pv (polyPV p),.pv (⟨mid,rV.hi⟩:ARange).pv,.pv (vI (depth-1))] [(200000,(.pure (((z++[mid]):List ARat).map ARat.cells).flatten))] (.rowT 0 0 z1.length 3 [(errPV cut1)]) [(0,(.pure ((z1:List ARat).map ARat.cells).flatten))]):ContractX prg 101 [(.row 200000 0 out.length 3),(.pv (polyPV p)),(.pv rV.pv),(eI depth)] [(200000,(.pure ((out:List ARat).map ARat.cells).flatten))] (.rowT 0 0 z1.length 3 [(errPV cut1)]) [(0,(.pure ((z1:List ARat).map ARat.cells).flatten))] :=
 ContractX.ofL Tryz.func101 (by kernel_rfl) (LX.done mixed tabOk (n:=135) (ns:=[1,1,1,1,1,1,1,6,1,1,1]) (tr:=[.ren 200000 1,.reg [],.reg [.none,.none,(.pv (.tup [(vB cle),.nilI]))],.reg [],.dec false,.reg [],.dec false,.reg [.none,(.pv mid.pv)],.reg [.none,.none,.none,.none,.none,.none,.none,(iI (depth-1)),(.callX [(1,200000)] (some (0,40)) (.rowT 0 0 z.length 3 [.nilI]) [(0,(.pure ((z:List ARat).map ARat.cells).flatten))])],.reg [],.auto,.keep [0,1,3,6,12],.any [.none,.none,.none,(.app ((z++[mid]):List ARat).length (((z++[mid]):List ARat).map ARat.cells).flatten),.none,.none,.none,.none,.none,.none,(iI (depth-1)),(.callX [(49,200000)] (some (0,57)) (.rowT 0 0 z1.length 3 [(errPV cut1)]) [(0,(.pure ((z1:List ARat).map ARat.cells).flatten))]),.none,.none,.none,.none],.ren 57 0,.drop [48,12,6],.ord [0]]) rfl (cj h1 (cj (Eq.refl false) (cj h2 (cj (deq_f h3) (cj h4 (cj (bs_sub h5) (cj h6 (cj (o_appR sz_ARat (z:List ARat) ([mid]:List ARat) 56 (Eq.refl (z:List ARat).length) (Eq.refl ([mid]:List ARat).length) h7 rfl) (cj (bs_sub h5) (cj h8 (cj (e2_any0 p rV depth mid z z1 cut1) True.intro))))))))))) (by kernel_rfl))
theorem e3(out p:List ARat)(rV:ARange)(depth:Int)(cle:Bool)(mid:ARat)(z:List ARat)(cut:Int)(h1:Contract prg 98 [(polyPV p),rV.pv] (.tup [(vB cle),.nilI]))(h2:cle=false)(h3:depth≠0)(h4:Contract prg 183 [rV.pv] mid.pv)(h5:InI64 (depth-1))(h6:ContractX prg 101 [.row 200000 0 out.length 3,.pv (polyPV p),.pv (⟨rV.lo,mid⟩:ARange).pv,.pv (vI (depth-1))] [(200000,(.pure ((out:List ARat).map ARat.cells).flatten))] (.rowT 0 0 z.length 3 [(.iface 94 (vI cut))]) [(0,(.pure ((z:List ARat).map ARat.cells).flatten))]):ContractX prg 101 [(.row 200000 0 out.length 3),(.pv (polyPV p)),(.pv rV.pv),(eI depth)] [(200000,(.pure ((out:List ARat).map ARat.cells).flatten))] (.rowT 0 0 0 3 [(.iface 94 (vI cut))]) [(0,(.pure (([]:List ARat).map ARat.cells).flatten))] :=
 ContractX.ofL Tryz.func101 (by kernel_rfl) (LX.done mixed tabOk (n:=132) (ns:=[1,1,1,1,1,1,1]) (tr:=[.ren 200000 1,.reg [],.reg [.none,.none,(.pv (.tup [(vB cle),.nilI]))],.reg [],.dec false,.reg [],.dec false,.reg [.none,(.pv mid.pv)],.reg [.none,.none,.none,.none,.none,.none,.none,(iI (depth-1)),(.callX [(1,200000)] (some (0,40)) (.rowT 0 0 z.length 3 [(.iface 94 (vI cut))]) [(0,(.pure ((z:List ARat).map ARat.cells).flatten))])],.reg [],.auto,.reg [.none,.nil],.adopt 8 0 3,.drop [40,12,6],.ord [0]]) rfl (cj h1 (cj (Eq.refl false) (cj h2 (cj (deq_f h3) (cj h4 (cj (bs_sub h5) (cj h6 True.intro))))))) (by kernel_rfl))
end positive_cutG
namespace positive_choose
@[reducible] noncomputable def fn:Func:=Tryz.f158
noncomputable def atK1:List Itm:=focus [0,2,0,2,0,0,2,0,0] [.code (bodyOf fn)]
def inv1(n k:Int)(t_12:Nat)(site_6:ARat):St:=⟨[(0,(eI n)),(4,(.ptr 4 0)),(6,(.ptr 6 0)),(11,(eI k)),(12,(eI (t_12:Int)))],[(4,(.lit [(eB false),(.pv (.list [])),(.pv (.list []))])),(6,(.lit [(eB site_6.neg),(.pv (wordsPV site_6.num)),(.pv (wordsPV site_6.den))]))]⟩
@[reducible] noncomputable def Loop1(n k:Int)(t_12:Nat)(site_6:ARat)(r:PV):Prop:=L prg fn atK1 (inv1 n k t_12 site_6) r
theorem e0(n k:Int)(of:ARat){r:PV}(h1:Contract prg 73 [(vI 1)] of.pv)(hL:Loop1 n k 0 of r):Contract prg 158 [(vI n),(vI k)] r :=
 Contract.ofL Tryz.func158 (by kernel_rfl) (L.go mixed tabOk (n:=87) (ns:=[1]) (tr:=[.reg [],.reg [(.pv of.pv)],.reg [],.keep [0,4,6,11,12],.ord [4,6]]) (cj h1 True.intro) (by kernel_rfl) hL)
theorem l10(n k:Int)(t_12:Nat)(site_6 mak mul:ARat){r:PV}(h1:(t_12:Int)<k)(h2:InI64 (n-(t_12:Int)))(h3:(t_12+1)<9223372036854775808)(h4:Contract prg 215 [(vI (n-(t_12:Int))),(vI (((t_12+1):Nat):Int))] (.tup [mak.pv,.nilI]))(h5:Contract prg 85 [site_6.pv,mak.pv] mul.pv)(hL:Loop1 n k (t_12+1) mul r):Loop1 n k t_12 site_6 r :=
 L.go mixed tabOk (n:=147) (ns:=[1,1,1,1,1,1]) (tr:=[.auto,.reg [],.dec true,.reg [],.reg [.none,.none,(iI (n-(t_12:Int))),.none,(iI (((t_12+1):Nat):Int)),(.pv (.tup [mak.pv,.nilI]))],.reg [],.auto,.reg [.none,.none,(.pv mul.pv)],.reg [(iI (((t_12+1):Nat):Int))],.keep [0,4,6,11,12],.drop [8]]) (cj (dlt_t h1) (cj (bs_sub h2) (cj (bs_addN h3) (cj h4 (cj h5 (cj (bs_addN h3) True.intro)))))) (by kernel_rfl) hL
theorem l12(n k:Int)(t_12:Nat)(site_6:ARat)(h1:k≤(t_12:Int)):Loop1 n k t_12 site_6 (.tup [site_6.pv,.nilI]) :=
 L.done mixed tabOk (n:=120) (ns:=[1]) (tr:=[.auto,.reg [],.dec false,.reg []]) (cj (dlt_f h1) True.intro) (by kernel_rfl)
end positive_choose
end Go.Proofs.YtbgkjomonebfcaaGreat.Sym.Path
namespace Go.Proofs.YtbgkjomonebfcaaGreat.Sym
open Go Path CInt
set_option linter.unusedVariables false
namespace CPs
theorem choose(n k:Nat)(hn:n≤64)(hk:k≤64):Contract prg 158 [vI (n:Int),vI (k:Int)] (.tup [(mkR (choQ (n:Int) k)).pv,.nilI]):=by
 have loop:∀d t:Nat,k-t=d→t≤k→positive_choose.Loop1 (n:Int) (k:Int) t (mkR (choQ (n:Int) t)) (.tup [(mkR (choQ (n:Int) k)).pv,.nilI]):=by
  intro d
  induction d with
  |zero =>
   intro t hd ht
   have:t=k:=by omega
   subst this
   exact positive_choose.l12 _ _ t _ (by omega)
  |succ d ih =>
   intro t hd htk
   have h1:=ht_choQ (n:=(n:Int)) (by omega) t (by omega)
   have h2:=ht_divInt ((n:Int)-(t:Int)) ((t+1:Nat):Int)
   have h3:wl ((n:Int)-(t:Int))≤2:=wl_le (by omega)
   have h4:wl ((t+1:Nat):Int)≤2:=wl_le (by omega)
   have hm:=QF.Mul (choQ (n:Int) t) (Rat.divInt ((n:Int)-(t:Int)) ((t+1:Nat):Int)) (by omega) (by omega)
   exact positive_choose.l10 _ _ t _ _ _ (by omega) (by unfold InI64;omega) (by omega) (QF.Make _ _ (by unfold InI64;omega) (by unfold InI64;omega) (by omega)) hm (ih (t+1) (by omega) (by omega))
 exact positive_choose.e0 _ _ _ (CFr.Of 1 (by unfold InI64;omega)) (loop k 0 rfl (by omega))
theorem Width(lo hi:Rat)(h1:ht lo≤68719476736)(h2:ht hi≤68719476736)(hle:lo≤hi):Contract prg 156 [(mkG lo hi).pv] (mkR (hi-lo)).pv:=by
 have hc:=CIv.clean (mkG lo hi) (fit_mkG h1 h2)
 rw[loG_mk hle,hiG_mk hle] at hc
 exact interval_Width.e0 _ (mkG lo hi) _ hc (QF.Sub hi lo h2 h1)
theorem bernstein{p:List Rat}{lo hi:Rat}(pc:Piece p lo hi):Contract prg 76 [pq p,(mkG lo hi).pv] (.tup [pq (bernQ p lo (hi-lo)),.nilI]):=by
 have hl:=pc.len
 by_cases h0:p.length=0
 ·have:p=[]:=List.eq_nil_of_length_eq_zero h0
  subst this
  exact positive_bernstein.e0 _ _ rfl
 have g1:=pc.hlo
 have g2:=pc.hhi
 have g3:=ht_sub hi lo
 have f1:Fl 81 [lo,hi-lo]:=fun x hx=>by
  rcases List.mem_cons.1 hx with rfl|hx
  ·omega
  ·rw[List.mem_singleton.1 hx];omega
 have l1:=len_trimL [lo,hi-lo]
 have l1:(trimL [lo,hi-lo]).length≤2:=l1
 have hw:=Width lo hi (by omega) (by omega) pc.le
 have ht:=CPl.Trim [lo,hi-lo] (by simp) f1 (by omega)
 have h5:=cB_le 2 40 81 (by omega) (9-p.length) p.length
 have h6:=cB_40
 rw[show p.length+(9-p.length)=9 from by omega] at h5
 have hc:=CPl.Compose (a:=40) (b:=81) 2 p (trimL [lo,hi-lo]) (chk2_zero (chk_map pc.zp (by omega)) (chk_trimL (by simp))) (by
  intro⟨_,h2,h3⟩
  have:(trimL [lo,hi-lo]).length-1=1:=by omega
  rw[this] at h3;omega) pc.fl (fl_trimL f1) (by omega) (by omega) l1 (by omega) (by omega)
 have hd:=poly_Degree.e0 (p.map mkR) (by rw[lenM];unfold InI64;omega)
 rw[lenM] at hd
 have hq:=sub_coef pc
 have ln:((subL p lo (hi-lo)).map mkR).length=(subL p lo (hi-lo)).length:=lenM _
 have inner:∀(j:Nat) (site:List ARat) (r:PV),j<p.length→site.length≤20→positive_bernstein.Loop1 ((subL p lo (hi-lo)).map mkR) ((p.length:Int)-1) (site++[mkR (berS (subL p lo (hi-lo)) ((p.length:Int)-1) j (j+1))]) (j+1) r →
   ∀d t:Nat,min (j+1) (subL p lo (hi-lo)).length-t=d→t≤min (j+1) (subL p lo (hi-lo)).length→positive_bernstein.Loop2 ((subL p lo (hi-lo)).map mkR) ((p.length:Int)-1) site j j (min (j+1) ((subL p lo (hi-lo)).map mkR).length) t (mkR (berS (subL p lo (hi-lo)) ((p.length:Int)-1) j t)) r:=by
  intro j site r hj hs hL d
  induction d with
  |zero =>
   intro t hd1 ht1
   have e:berS (subL p lo (hi-lo)) ((p.length:Int)-1) j t=berS (subL p lo (hi-lo)) ((p.length:Int)-1) j (j+1):=by
    by_cases hc:j+1≤(subL p lo (hi-lo)).length
    ·rw[show t=j+1 from by omega]
    ·have:=berS_ge (q:=subL p lo (hi-lo)) (n:=(p.length:Int)-1) (j:=j) (m:=t) (by omega) (j+1-t)
     rw[show t+(j+1-t)=j+1 from by omega] at this
     exact this.symm
   rw[e]
   exact positive_bernstein.l24 _ _ site j j _ t _ (by rw[ln];omega) (by rw[List.length_append,List.length_singleton];omega) (by omega) hL
  |succ d ih =>
   intro t hd1 ht1
   have c1:=choose j t (by omega) (by omega)
   have c2:=choose (p.length-1) t (by omega) (by omega)
   rw[show ((p.length-1:Nat):Int)=(p.length:Int)-1 from by omega] at c2
   have b1:=ht_choQ (n:=(j:Int)) (by omega) t (by omega)
   have b2:=ht_choQ (n:=(p.length:Int)-1) (by omega) t (by omega)
   obtain⟨b3,b4⟩:=ht_term (q:=subL p lo (hi-lo)) (n:=(p.length:Int)-1) (H:=110000) (by omega) hq j t (by omega) (by omega)
   have b5:=ht_berS (q:=subL p lo (hi-lo)) (n:=(p.length:Int)-1) (H:=110000) (by omega) hq j (by omega) t (by omega)
   have b6:t*(110000+271)≤65*(110000+271):=Nat.mul_le_mul_right _ (by omega)
   have b7:=hq t
   have hpos:=choQ_pos (n:=(p.length:Int)-1) t (by omega)
   have hdv:=QF.Div (choQ (j:Int) t) (choQ ((p.length:Int)-1) t) (by omega) (by omega) (by grind)
   have hml:=QF.Mul (choQ (j:Int) t/choQ ((p.length:Int)-1) t) (coef (subL p lo (hi-lo)) t) (by omega) (by omega)
   have had:=QF.Add (berS (subL p lo (hi-lo)) ((p.length:Int)-1) j t) _ (by omega) (Nat.le_trans b4 (by omega))
   exact positive_bernstein.l20 _ _ site j j _ t _ _ _ _ _ _ _ (by rw[ln];omega) c1 c2 hdv (getM (coef_get (by omega))) hml had (by omega) (ih (t+1) (by omega) (by omega))
 have outer:∀d j:Nat,p.length-j=d→j≤p.length→positive_bernstein.Loop1 ((subL p lo (hi-lo)).map mkR) ((p.length:Int)-1) ((tabL j (fun j=>berS (subL p lo (hi-lo)) ((p.length:Int)-1) j (j+1))).map mkR) j (.tup [pq (bernQ p lo (hi-lo)),.nilI]):=by
  intro d
  induction d with
  |zero =>
   intro j hd1 hj
   have:j=p.length:=by omega
   subst this
   exact positive_bernstein.l11 _ _ _ _ (by omega)
  |succ d ih =>
   intro j hd1 hj
   have:=ih (j+1) (by omega) (by omega)
   rw[tabL_succ,List.map_append] at this
   exact positive_bernstein.l10 _ _ _ j (by omega) (by omega) (inner j _ _ (by omega) (by rw[lenM,tabL_len];omega) this _ 0 rfl (by omega))
 exact positive_bernstein.e1 _ (mkG lo hi) _ _ _ _ (by rw[lenM];exact h0) hw ht hc hd (by unfold InI64;omega) (outer _ 0 rfl (by omega))
theorem clear{p:List Rat}{lo hi:Rat}(pc:Piece p lo hi):Contract prg 98 [pq p,(mkG lo hi).pv] (.tup [vB (clearB (bernQ p lo (hi-lo))),.nilI]):=by
 have hb:=bernstein pc
 have hf:=fl_bern pc
 have hl:=bern_len p lo (hi-lo)
 have hpl:=pc.len
 generalize bernQ p lo (hi-lo)=b at hb hf hl
 by_cases h0:b.length=0
 ·have:b=[]:=List.eq_nil_of_length_eq_zero h0
  subst this
  exact positive_clear.e0 _ _ _ hb rfl
 have ht:∀i,ht (coef b i)≤1000000:=fun i=>fl_coef hf (by omega) i
 have loop:∀d t:Nat,b.length-t=d→t≤b.length→positive_clear.Loop1 (b.map mkR) t (.tup [vB ((b.drop t).all (fun x=>decide (0≤x))&&(decide (0<coef b 0)&&decide (0<coef b (b.length-1)))),.nilI]):=by
  intro d
  induction d with
  |zero =>
   intro t hd1 ht1
   rw[List.drop_of_length_le (by omega),List.all_nil,Bool.true_and]
   have s1:=QF.Sign (coef b 0) (Nat.le_trans (ht 0) (by omega))
   have s2:=QF.Sign (coef b (b.length-1)) (Nat.le_trans (ht _) (by omega))
   by_cases hp:0<coef b 0
   ·rw[decide_eq_true hp,Bool.true_and]
    have:=positive_clear.l12 (b.map mkR) t _ _ (b.length-1) _ _ (by rw[lenM];omega) (getM (coef_get (by omega))) s1 (cmpR_gt.2 hp) (by rw[lenM];unfold InI64;omega) (by rw[lenM];omega) (getM (coef_get (by omega))) s2
    rwa[show decide (cmpR (coef b (b.length-1)) 0>0)=decide (0<coef b (b.length-1)) from by congr 1;exact propext cmpR_gt] at this
   ·rw[decide_eq_false hp,Bool.false_and]
    exact positive_clear.l13 (b.map mkR) t _ _ (by rw[lenM];omega) (getM (coef_get (by omega))) s1 (cmpR_le.2 (by grind))
  |succ d ih =>
   intro t hd1 ht1
   have hg:=coef_get (p:=b) (i:=t) (by omega)
   have s1:=QF.Sign (coef b t) (Nat.le_trans (ht t) (by omega))
   rw[drop_cons hg,List.all_cons]
   by_cases hp:0≤coef b t
   ·rw[decide_eq_true hp,Bool.true_and]
    exact positive_clear.l11 (b.map mkR) t _ _ (by rw[lenM];omega) (getM hg) s1 (cmpR_ge.2 hp) (by omega) (ih (t+1) (by omega) (by omega))
   ·rw[decide_eq_false hp,Bool.false_and,Bool.false_and]
    exact positive_clear.l10 (b.map mkR) t _ _ (by rw[lenM];omega) (getM hg) s1 (cmpR_lt.2 (by grind))
 have:=positive_clear.e1 _ _ _ hb (by rw[lenM];exact h0) (loop _ 0 rfl (by omega))
 rwa[List.drop_zero] at this
theorem check(p:List ARat)(r:ARange)(hp:FitP 274877906944 p)(hr:FitG 68719476736 r):Contract prg 75 [polyPV p,r.pv] (errPV (errOf (err31 p r))):=by
 have hk:=CPo.Check p hp
 have hv:=CIv.Valid r hr
 unfold err31
 by_cases h:chk p=0
 ·rw[if_pos h]
  rw[h] at hk
  by_cases h0:r.ok=true
  ·rw[if_pos h0];exact positive_check.e1 p r _ hk hv h0
  ·rw[if_neg h0];exact positive_check.e0 p r _ hk hv (by simpa using h0)
 ·rw[if_neg h]
  rw[errOf_ne h] at hk ⊢
  exact positive_check.e2 p r _ hk
theorem EvalQ(p:List Rat)(x:Rat)(hz:lastZ p=false)(hl:p.length≤65){k:Nat}(hf:Fl k p)(hx:ht x≤k)(hk:k≤1073741824):Contract prg 27 [pq p,(mkR x).pv] (.tup [(mkR (evalL p x)).pv,.nilI]):=by
 have:=CPo.Eval (p.map mkR) (mkR x) (chk_map hz hl) (fit_mapk (fl_mono hf hk)) (fit_mkRk (Nat.le_trans hx hk))
 rwa[vals_mkR,mkR_val] at this
theorem decide'{h L:Nat}{p:List Rat}(f:p=[]∨Fine h L p){lo hi:Rat}{k:Nat}(hf:Fl k p)(hk:k≤1048576)(hk1:1≤k)(hlh:lo≤hi)(h1:ht lo≤k)(h2:ht hi≤k):Contract prg 77 [pq p,(mkG lo hi).pv] (.tup [vB (posR p lo hi),.nilI]):=by
 have hl:p.length≤10:=by
  rcases f with rfl|f
  ·simp
  ·have:=f.len;have:=f.hL;omega
 have hz:lastZ p=false:=by
  rcases f with rfl|f
  ·rfl
  ·exact f.zp
 have he:=EvalQ p lo hz (by omega) hf h1 (by omega)
 have hv:=ht_eval p lo k hf h1
 have h4:p.length*(2*k+1)≤10*(2*k+1):=Nat.mul_le_mul_right _ hl
 have hs:=QF.Sign (evalL p lo) (by omega)
 unfold posR
 by_cases h0:0<evalL p lo
 ·rw[decide_eq_true h0,Bool.true_and]
  rcases f with rfl|f
  ·exact absurd h0 Rat.lt_irrefl
  ·exact positive_decide.e1 _ (mkG lo hi) _ _ _ none he hs (cmpR_gt.2 h0) (CSt.Count f lo hi hlh (by omega) (by omega))
 ·rw[decide_eq_false h0,Bool.false_and]
  exact positive_decide.e0 _ (mkG lo hi) _ _ he hs (cmpR_le.2 (by grind))
theorem Bound{k:Nat}{p:List Rat}(hz:lastZ p=false)(h0:p≠[])(hl:p.length≤65)(hf:Fl k p)(hk:k≤1048576):Contract prg 160 [pq p] (.tup [(mkR (bndQ k p)).pv,.nilI]):=by
 have hpos:=List.length_pos_iff.2 h0
 have hck:=CSt.check (p.map mkR) (fitQ hf (by omega))
 rw[chk_map hz hl,if_pos rfl,if_neg (by rw[lenM];omega)] at hck
 have htop:ht (topL p)≤k:=hf _ (List.mem_of_getElem? (coef_get (by omega)))
 have htn:=top_ne hz h0
 have inner:∀(t:Nat) (c:Rat) (r:PV) (out':Rat),p[t]? = some c→∀(f j:Nat),fuelB k≤j+f→j≤fuelB k→out'=dblF f (pow2 j) (1+absR (c/topL p))→sturm_Bound.Loop1 (p.map mkR) (t+1) (mkR out') r→sturm_Bound.Loop2 (p.map mkR) t (mkR (pow2 j)) (mkR (c/topL p)) r:=by
  intro t c r out' hc f
  have htl:=(List.getElem?_eq_some_iff.1 hc).1
  obtain⟨b1,b2,b3⟩:=bnd_term (hf c (List.mem_of_getElem? hc)) htop
  have ho:=CFr.Of 1 (by unfold InI64;omega)
  have ha:=QF.Abs (c/topL p) (by omega)
  have hd:=QF.Add ((1:Int):Rat) (absR (c/topL p)) (by decide) (by rw[ht_abs];omega)
  induction f with
  |zero =>
   intro j h1 h2 h3 hL
   have hp2:=ht_pow2 (k:=j) (n:=2*k+4) (by unfold fuelB at h2;omega)
   have hcmp:=QF.Cmp (pow2 j) (1+absR (c/topL p)) (by omega) (by omega)
   rw[h3] at hL
   exact sturm_Bound.l21 _ t _ _ _ _ _ _ ho ha hd hcmp (cmpR_ge.2 (Rat.le_trans b1 (pow2_mono (by omega)))) (by omega) hL
  |succ f ih =>
   intro j h1 h2 h3 hL
   have hp2:=ht_pow2 (k:=j) (n:=2*k+4) (by unfold fuelB at h2;omega)
   have hcmp:=QF.Cmp (pow2 j) (1+absR (c/topL p)) (by omega) (by omega)
   rw[dblF] at h3
   by_cases hlt:pow2 j<1+absR (c/topL p)
   ·rw[decide_eq_true hlt,cond_true,pow2_add] at h3
    have had:=QF.Add (pow2 j) (pow2 j) (by omega) (by omega)
    rw[pow2_add] at had
    have hj:j<fuelB k:=by
     rcases Nat.lt_or_ge j (fuelB k) with h|h
     ·exact h
     ·have:=pow2_mono h;grind
    exact sturm_Bound.l20 _ t _ _ _ _ _ _ _ ho ha hd hcmp (cmpR_lt.2 hlt) had (ih (j+1) (by omega) (by omega) h3 hL)
   ·rw[decide_eq_false hlt,cond_false] at h3
    rw[h3] at hL
    exact sturm_Bound.l21 _ t _ _ _ _ _ _ ho ha hd hcmp (cmpR_ge.2 (by grind)) (by omega) hL
 have outer:∀d t j:Nat,p.length-t=d→t≤p.length→j≤fuelB k→sturm_Bound.Loop1 (p.map mkR) t (mkR (pow2 j)) (.tup [(mkR (bndF (fuelB k) (topL p) (p.drop t) (pow2 j))).pv,.nilI]):=by
  intro d
  induction d with
  |zero =>
   intro t j h1 h2 h3
   rw[List.drop_of_length_le (by omega)]
   exact sturm_Bound.l12 _ t _ (by rw[lenM];omega)
  |succ d ih =>
   intro t j h1 h2 h3
   have hg:=coef_get (p:=p) (i:=t) (by omega)
   obtain⟨b1,b2,b3⟩:=bnd_term (hf _ (List.mem_of_getElem? hg)) htop
   obtain⟨j1,e1,e2,e3,e4⟩:=dblF_spec b1 (fuelB k) j (by omega)
   rw[drop_cons hg,bndF]
   have hdv:=QF.Div (coef p t) (topL p) (Nat.le_trans (hf _ (List.mem_of_getElem? hg)) (by omega)) (by omega) htn
   refine sturm_Bound.l10 _ t _ _ (p.length-1) _ _ (by rw[lenM];omega) (getM hg) (by rw[lenM];unfold InI64;omega) (by rw[lenM];omega) (getM (coef_get (by omega))) hdv ?_
   refine inner t _ _ _ hg (fuelB k) j (by omega) h3 rfl ?_
   rw[e1]
   exact ih (t+1) j1 (by omega) (by omega) (by omega)
 have:=outer _ 0 0 rfl (by omega) (by omega)
 rw[List.drop_zero] at this
 exact sturm_Bound.e0 _ _ hck (CFr.Of 1 (by unfold InI64;omega)) this
theorem bnd_ht{k:Nat}{p:List Rat}(h0:p≠[])(hf:Fl k p):0≤bndQ k p∧ht (bndQ k p)≤2*k+4:=by
 have hpos:=List.length_pos_iff.2 h0
 have htop:ht (topL p)≤k:=hf _ (List.mem_of_getElem? (coef_get (by omega)))
 obtain⟨j,e1,e2,e3,e4⟩:=bndF_spec htop p 0 hf (Nat.zero_le _)
 unfold bndQ
 rw[e1]
 refine⟨?_,ht_pow2 (by unfold fuelB at e3;omega)⟩
 exact Rat.le_trans (b:=pow2 0) (by decide) (pow2_mono (Nat.zero_le _))
theorem All{h L k:Nat}{p:List Rat}(f:Fine h L p)(hf:Fl k p)(hk:k≤1048576):Contract prg 79 [pq p] (.tup [vI (allR p (bndQ k p)),.nilI]):=by
 have hl:=f.len
 have hL:=f.hL
 obtain⟨b1,b2⟩:=bnd_ht f.ne hf
 have hb:=Bound f.zp f.ne (by omega) hf hk
 have hn:=QF.Neg (bndQ k p) (by omega)
 have hng:=ht_neg (bndQ k p)
 exact sturm_All.e0 _ _ _ _ none hb hn (CSt.Count f (-bndQ k p) (bndQ k p) (by grind) (by omega) (by omega))
theorem Everywhere{h L k:Nat}{p:List Rat}(f:p=[]∨Fine h L p)(hf:Fl k p)(hk:k≤1048576)(hk1:1≤k):Contract prg 20 [pq p] (.tup [vB (everyB k p),.nilI]):=by
 have hl:p.length≤10:=by
  rcases f with rfl|f
  ·simp
  ·have:=f.len;have:=f.hL;omega
 have hz:lastZ p=false:=by
  rcases f with rfl|f
  ·rfl
  ·exact f.zp
 have hck:=CPo.Check (p.map mkR) (fitQ hf (by omega))
 rw[chk_map hz (by omega)] at hck
 have h0':ht (0:Rat)≤k:=by rw[ht_zero];exact hk1
 have he:=EvalQ p 0 hz (by omega) hf h0' (by omega)
 have hv:=ht_eval p 0 k hf h0'
 have h4:p.length*(2*k+1)≤10*(2*k+1):=Nat.mul_le_mul_right _ hl
 have hs:=QF.Sign (evalL p 0) (by omega)
 unfold everyB
 by_cases h0:0<evalL p 0
 ·rw[decide_eq_true h0,Bool.true_and]
  rcases f with rfl|f
  ·exact absurd h0 Rat.lt_irrefl
  ·exact positive_Everywhere.e1 _ _ _ _ none hck he hs (cmpR_gt.2 h0) (All f hf hk)
 ·rw[decide_eq_false h0,Bool.false_and]
  exact positive_Everywhere.e0 _ _ _ hck he hs (cmpR_le.2 (by grind))
end CPs
end Go.Proofs.YtbgkjomonebfcaaGreat.Sym
namespace Go.Proofs.YtbgkjomonebfcaaGreat.Sym
open Go Path CInt
set_option linter.unusedVariables false
def ptQ(a w:Rat)(k j:Nat):Rat:=a+w*Rat.divInt (j:Int) ((2^k:Nat):Int)
def cutQ(p:List Rat)(a w:Rat):Nat→Nat→Nat→Option (List Rat)
 |d,k,j=>bif clearB (bernQ p (ptQ a w k j) (ptQ a w k (j+1)-ptQ a w k j)) then some [] else match d with
  |0=>none
  |d+1=>match cutQ p a w d (k+1) (2*j) with
   |none=>none
   |some l=>match cutQ p a w d (k+1) (2*j+1) with
    |none=>none
    |some m=>some (l++ptQ a w (k+1) (2*j+1)::m)
theorem two_ne(k:Nat):(((2^k:Nat):Int):Rat)≠0:=fun e=>by
 have:=Rat.intCast_inj.1 (show (((2^k:Nat):Int):Rat)=((0:Int):Rat) from e)
 have:=Nat.pow_pos (n:=k) (show 0<2 by omega)
 omega
theorem pt_even(a w:Rat)(k j:Nat):ptQ a w (k+1) (2*j)=ptQ a w k j:=by
 unfold ptQ
 congr 2
 have h:=two_ne k
 have h2:=two_ne (k+1)
 rw[Rat.divInt_eq_div,Rat.divInt_eq_div,Rat.div_def,Rat.div_def]
 have e:(((2^(k+1):Nat):Int):Rat)=(((2^k:Nat):Int):Rat)*2:=by
  rw[show (2:Rat)=((2:Int):Rat) from rfl,←Rat.intCast_mul];congr 1
 have e2:((2*j:Nat):Int)=(j:Int)*2:=by omega
 rw[e,e2,Rat.intCast_mul,show(((2:Int)):Rat)=2 from rfl,Rat.inv_mul_rev]
 have i2:(2:Rat)*2⁻¹=1:=by decide +kernel
 generalize ((((2^k:Nat):Int):Rat))⁻¹=u
 generalize ((j:Int):Rat)=v
 have:v*2*(2⁻¹*u)=v*(2*2⁻¹)*u:=by grind
 rw[this,i2];grind
theorem pt_odd(a w:Rat)(k j:Nat):Rat.divInt 1 2*(ptQ a w k j+ptQ a w k (j+1))=ptQ a w (k+1) (2*j+1):=by
 rw[←pt_even a w k j,←pt_even a w k (j+1)]
 unfold ptQ
 rw[Rat.divInt_eq_div,Rat.divInt_eq_div,Rat.divInt_eq_div,Rat.divInt_eq_div,Rat.div_def,Rat.div_def,Rat.div_def,Rat.div_def]
 generalize ((((2^(k+1):Nat):Int):Rat))⁻¹=u
 have e1:((2*j:Nat):Int)=2*(j:Int):=by omega
 have e2:((2*(j+1):Nat):Int)=2*(j:Int)+2:=by omega
 have e3:((2*j+1:Nat):Int)=2*(j:Int)+1:=by omega
 rw[e1,e2,e3,Rat.intCast_add,Rat.intCast_add,Rat.intCast_mul]
 generalize ((j:Int):Rat)=v
 have i2:((1:Int):Rat)*(((2:Int):Rat))⁻¹=1/2:=by decide +kernel
 rw[i2,show((2:Int):Rat)=2 from rfl,show((1:Int):Rat)=1 from rfl]
 grind
structure Base (p:List Rat) (a w:Rat):Prop where
 zp:lastZ p=false
 len:p.length≤9
 fl:Fl 40 p
 ha:ht a≤10
 hw:ht w≤20
 w0:0≤w
theorem pt_ht{p:List Rat}{a w:Rat}(b:Base p a w){k j:Nat}(hk:k≤10)(hj:j≤2^k):ht (ptQ a w k j)≤33:=by
 have h1:=b.ha
 have h2:=b.hw
 have h3:=ht_divInt (j:Int) ((2^k:Nat):Int)
 have h5:2^k≤2^10:=Nat.pow_le_pow_right (by omega) hk
 have h6:wl (j:Int)≤1:=wl_le (by omega)
 have h7:wl ((2^k:Nat):Int)≤1:=wl_le (by omega)
 have h8:=ht_mul w (Rat.divInt (j:Int) ((2^k:Nat):Int))
 have h9:=ht_add a (w*Rat.divInt (j:Int) ((2^k:Nat):Int))
 unfold ptQ
 omega
theorem pt_le{w:Rat}(a:Rat)(h:0≤w)(k j:Nat):ptQ a w k j≤ptQ a w k (j+1):=by
 unfold ptQ
 have h2:Rat.divInt (j:Int) ((2^k:Nat):Int)≤Rat.divInt ((j+1:Nat):Int) ((2^k:Nat):Int):=by
  rw[Rat.divInt_eq_div,Rat.divInt_eq_div,Rat.div_def,Rat.div_def]
  refine Rat.mul_le_mul_of_nonneg_right (Rat.intCast_le_intCast.2 (by omega)) (Rat.le_of_lt (Rat.inv_pos.2 ?_))
  have:=Nat.pow_pos (n:=k) (show 0<2 by omega)
  exact Rat.intCast_lt_intCast.2 (show (0:Int)<_ by omega)
 have:=Rat.mul_le_mul_of_nonneg_left h2 h
 grind
theorem pt_piece{p:List Rat}{a w:Rat}(b:Base p a w){k j:Nat}(hk:k≤10)(hj:j<2^k):Piece p (ptQ a w k j) (ptQ a w k (j+1)):=by
 have h1:=pt_ht b hk (show j≤2^k by omega)
 have h2:=pt_ht b hk (show j+1≤2^k by omega)
 exact⟨b.zp,b.len,b.fl,by omega,by omega,pt_le a b.w0 k j⟩
theorem cutQ_len{p:List Rat}{a w:Rat} : ∀(d k j:Nat) (l:List Rat),cutQ p a w d k j=some l→l.length+1≤2^d
 |d,k,j,l,h=>by
  unfold cutQ at h
  cases hc:clearB (bernQ p (ptQ a w k j) (ptQ a w k (j+1)-ptQ a w k j)) with
  |true =>
   rw[hc,cond_true] at h
   injection h with h;subst h
   exact Nat.pow_pos (by omega)
  |false =>
   rw[hc,cond_false] at h
   match d,h with
   |d+1,h =>
    simp only at h
    cases h1:cutQ p a w d (k+1) (2*j) with
    |none=>rw[h1] at h;cases h
    |some l1 =>
     cases h2:cutQ p a w d (k+1) (2*j+1) with
     |none=>rw[h1,h2] at h;cases h
     |some l2 =>
      rw[h1,h2] at h
      injection h with h;subst h
      have:=cutQ_len d _ _ _ h1
      have:=cutQ_len d _ _ _ h2
      rw[List.length_append,List.length_cons,Nat.pow_succ]
      omega
namespace CPc
theorem Mid(lo hi:Rat)(h1:ht lo≤1000)(h2:ht hi≤1000)(hle:lo≤hi):Contract prg 183 [(mkG lo hi).pv] (mkR (Rat.divInt 1 2*(lo+hi))).pv:=by
 have hc:=CIv.clean (mkG lo hi) (fit_mkG (Nat.le_trans h1 (by omega)) (Nat.le_trans h2 (by omega)))
 rw[loG_mk hle,hiG_mk hle] at hc
 have hh:=interval_half.e0 _ none (QF.Make 1 2 (by unfold InI64;omega) (by unfold InI64;omega) (by omega))
 have h3:=ht_add lo hi
 have h4:ht (Rat.divInt 1 2)≤1:=by decide
 exact interval_Mid.e0 _ (mkG lo hi) _ _ _ hc hh (QF.Add lo hi (by omega) (by omega)) (QF.Mul _ _ (by omega) (by omega))
def cutZ(out:List ARat):Option (List Rat)→List ARat
 |some l=>out++l.map mkR
 |none=>[]
def cutE:Option (List Rat)→Option Int
 |some _=>none
 |none=>some 15
theorem cutG{p:List Rat}{a w:Rat}(b:Base p a w):∀(d k j:Nat) (out:List ARat),k+d≤9→j<2^k→out.length+2^d≤1000000 →
  ContractX prg 101 [(.row 200000 0 out.length 3),(.pv (pq p)),(.pv (mkG (ptQ a w k j) (ptQ a w k (j+1))).pv),(eI (d:Int))] [(200000,(.pure ((out:List ARat).map ARat.cells).flatten))] (.rowT 0 0 (cutZ out (cutQ p a w d k j)).length 3 [errPV (cutE (cutQ p a w d k j))]) [(0,(.pure ((cutZ out (cutQ p a w d k j):List ARat).map ARat.cells).flatten))]
 |d,k,j,out,hkd,hj,hlen=>by
  have pc:=pt_piece b (k:=k) (by omega) hj
  have hcl:=CPs.clear pc
  unfold cutQ
  cases hc:clearB (bernQ p (ptQ a w k j) (ptQ a w k (j+1)-ptQ a w k j)) with
  |true =>
   rw[hc] at hcl
   have:=positive_cutG.e0 out _ (mkG (ptQ a w k j) (ptQ a w k (j+1))) (d:Int) _ hcl rfl
   rw[cond_true]
   show ContractX prg _ _ _ (.rowT 0 0 (out++[].map mkR).length 3 [errPV none]) [(0,.pure (((out++[].map mkR:List ARat)).map ARat.cells).flatten)]
   rw[List.map_nil,List.append_nil]
   exact this
  |false =>
   rw[hc] at hcl
   rw[cond_false]
   match d with
   |0=>exact positive_cutG.e1 out _ (mkG (ptQ a w k j) (ptQ a w k (j+1))) _ _ hcl rfl rfl
   |d+1 =>
    have hj1:2*j<2^(k+1):=by rw[Nat.pow_succ];omega
    have hj2:2*j+1<2^(k+1):=by rw[Nat.pow_succ];omega
    have hp2:2^(d+1)=2^d+2^d:=by rw[Nat.pow_succ];omega
    have hpd:=Nat.pow_pos (n:=d) (show 0<2 by omega)
    have hm:=Mid (ptQ a w k j) (ptQ a w k (j+1)) (by have:=pc.hlo;omega) (by have:=pc.hhi;omega) pc.le
    rw[pt_odd] at hm
    have i1:=cutG b d (k+1) (2*j) out (by omega) hj1 (by omega)
    rw[pt_even] at i1
    have hd:((d+1:Nat):Int)≠0:=by omega
    have hI:InI64 (((d+1:Nat):Int)-1):=by
     have:d≤9:=by omega
     unfold InI64;omega
    have e1:((d+1:Nat):Int)-1=(d:Int):=by omega
    simp only
    cases h1:cutQ p a w d (k+1) (2*j) with
    |none =>
     rw[h1] at i1
     exact positive_cutG.e3 out _ (mkG (ptQ a w k j) (ptQ a w k (j+1))) _ _ _ [] 15 hcl rfl hd hm hI (by rw[e1];exact i1)
    |some l =>
     rw[h1] at i1
     have hl:=cutQ_len _ _ _ _ h1
     have i2:=cutG b d (k+1) (2*j+1) (out++l.map mkR++[mkR (ptQ a w (k+1) (2*j+1))]) (by omega) hj2 (by
      rw[List.length_append,List.length_append,lenM,List.length_singleton];omega)
     rw[show 2*j+1+1=2*(j+1) from by omega,pt_even] at i2
     have:=positive_cutG.e2 out _ (mkG (ptQ a w k j) (ptQ a w k (j+1))) _ _ _ (out++l.map mkR) _ _ hcl rfl hd hm hI (by rw[e1];exact i1) (by rw[List.length_append,List.length_append,lenM,List.length_singleton];omega) (by rw[e1];exact i2)
     cases h2:cutQ p a w d (k+1) (2*j+1) with
     |none=>rw[h2] at this;exact this
     |some m =>
      rw[h2] at this
      have e:cutZ (out++l.map mkR++[mkR (ptQ a w (k+1) (2*j+1))]) (some m)=cutZ out (some (l++ptQ a w (k+1) (2*j+1)::m)):=by
       show out++l.map mkR++[mkR _]++m.map mkR=out++(l++_::m).map mkR
       simp
      rw[e] at this
      exact this
theorem cutN{p:List Rat}{a w:Rat}(b:Base p a w)(d k j:Nat)(hkd:k+d≤9)(hj:j<2^k) :
  ContractX prg 101 [(.pv .nilS),(.pv (pq p)),(.pv (mkG (ptQ a w k j) (ptQ a w k (j+1))).pv),(eI (d:Int))] [] (.rowT 0 0 (cutZ [] (cutQ p a w d k j)).length 3 [errPV (cutE (cutQ p a w d k j))]) [(0,(.pure ((cutZ [] (cutQ p a w d k j):List ARat).map ARat.cells).flatten))]:=by
 have pc:=pt_piece b (k:=k) (by omega) hj
 have hcl:=CPs.clear pc
 unfold cutQ
 cases hc:clearB (bernQ p (ptQ a w k j) (ptQ a w k (j+1)-ptQ a w k j)) with
 |true =>
  rw[hc] at hcl
  exact positive_cutN.e0 _ (mkG (ptQ a w k j) (ptQ a w k (j+1))) (d:Int) _ hcl rfl
 |false =>
  rw[hc] at hcl
  rw[cond_false]
  match d,hkd with
  |0,_=>exact positive_cutN.e1 _ (mkG (ptQ a w k j) (ptQ a w k (j+1))) _ _ hcl rfl rfl
  |d+1,hkd =>
   have hj1:2*j<2^(k+1):=by rw[Nat.pow_succ];omega
   have hj2:2*j+1<2^(k+1):=by rw[Nat.pow_succ];omega
   have hp9:2^d≤2^9:=Nat.pow_le_pow_right (by omega) (by omega)
   have hm:=Mid (ptQ a w k j) (ptQ a w k (j+1)) (by have:=pc.hlo;omega) (by have:=pc.hhi;omega) pc.le
   rw[pt_odd] at hm
   have i1:=cutG b d (k+1) (2*j) [] (by omega) hj1 (by simp;omega)
   rw[pt_even] at i1
   have hd:((d+1:Nat):Int)≠0:=by omega
   have hI:InI64 (((d+1:Nat):Int)-1):=by
    have:d≤9:=by omega
    unfold InI64;omega
   have e1:((d+1:Nat):Int)-1=(d:Int):=by omega
   simp only
   cases h1:cutQ p a w d (k+1) (2*j) with
   |none =>
    rw[h1] at i1
    exact positive_cutN.e3 _ (mkG (ptQ a w k j) (ptQ a w k (j+1))) _ _ _ [] 15 hcl rfl hd hm hI (by rw[e1];exact i1)
   |some l =>
    rw[h1] at i1
    have hl:=cutQ_len _ _ _ _ h1
    have i2:=cutG b d (k+1) (2*j+1) (l.map mkR++[mkR (ptQ a w (k+1) (2*j+1))]) (by omega) hj2 (by
     rw[List.length_append,lenM,List.length_singleton];omega)
    rw[show 2*j+1+1=2*(j+1) from by omega,pt_even] at i2
    have:=positive_cutN.e2 _ (mkG (ptQ a w k j) (ptQ a w k (j+1))) _ _ _ (l.map mkR) _ _ hcl rfl hd hm hI (by rw[e1];exact i1) (by rw[List.length_append,lenM,List.length_singleton];omega) (by rw[e1];exact i2)
    cases h2:cutQ p a w d (k+1) (2*j+1) with
    |none=>rw[h2] at this;exact this
    |some m =>
     rw[h2] at this
     have e:cutZ (l.map mkR++[mkR (ptQ a w (k+1) (2*j+1))]) (some m)=cutZ [] (some (l++ptQ a w (k+1) (2*j+1)::m)):=by
      show l.map mkR++[mkR _]++m.map mkR=[]++(l++_::m).map mkR
      simp
     rw[e] at this
     exact this
end CPc
end Go.Proofs.YtbgkjomonebfcaaGreat.Sym
namespace Go.Proofs.YtbgkjomonebfcaaGreat.Sym
open Go Path CInt
set_option linter.unusedVariables false
namespace CPt
theorem Width(lo hi:Rat)(h1:ht lo≤68719476736)(h2:ht hi≤68719476736)(hle:lo≤hi):Contract prg 89 [(mkG lo hi).pv] (mkR (hi-lo)).pv:=by
 have hc:=CJv.given (mkG lo hi) (fit_mkG h1 h2)
 rw[loG_mk hle,hiG_mk hle] at hc
 exact linkworkref03_Width.e0 _ (mkG lo hi) _ hc (QR.Sub hi lo h2 h1)
theorem Error(p:List ARat)(r:ARange)(hp:FitP 274877906944 p)(hr:FitG 68719476736 r):Contract prg 80 [polyPV p,r.pv] (vI (err31 p r)):=by
 have hk:=CRe.Check p hp
 have hv:=CJv.Valid r hr
 unfold err31
 by_cases h:chk p=0
 ·rw[if_pos h]
  by_cases h0:r.ok=true
  ·rw[if_pos h0];exact linkworkref31_Error.e2 p r _ _ hk h hv h0
  ·rw[if_neg h0];exact linkworkref31_Error.e1 p r _ _ hk h hv (by simpa using h0)
 ·rw[if_neg h];exact linkworkref31_Error.e0 p r _ hk h
end CPt
end Go.Proofs.YtbgkjomonebfcaaGreat.Sym










namespace Go.Proofs.YtbgkjomonebfcaaGreat.Sym
open Go Path CInt
set_option linter.unusedVariables false
namespace CCa
theorem ScaleQ{a d:Nat}(p:List Rat)(c:Rat)(zp:lastZ p=false)(lp:p.length≤65)(hp:Fl a p)(hc:ht c≤d)(ha:1≤a)(hk:a+d+2≤68719476736):Contract prg 72 [pq p,(mkR c).pv] (.tup [pq (trimL (smulL c p)),.nilI]):=by
 have hck:=CPo.Check (p.map mkR) (fitQ hp (by omega))
 rw[chk_map zp lp] at hck
 exact poly_Scale.e0 _ _ _ hck (CPl.plus (a:=1) (d:=d) [] p c (by simp) (by omega) (fun x hx=>by cases hx) hp hc (by omega) ha (by omega))
end CCa
end Go.Proofs.YtbgkjomonebfcaaGreat.Sym
namespace Go.Proofs.YtbgkjomonebfcaaGreat.Sym.Path
open Go
set_option maxRecDepth 20000
set_option linter.unusedVariables false
namespace linkworklaw31_PositiveRight
theorem e0(p:List ARat)(rV:ARange)(x:AClaim)(val awa:Bool)(h1:Contract prg 26 [(polyPV p),rV.pv] (vB val))(h2:val=false)(h3:Contract prg 17 [] (vB awa)):Contract prg 8 [(polyPV p),rV.pv,x.pv] (vB awa) :=
 Contract.ofL Tryz.func8 (by kernel_rfl) (L.done mixed tabOk (n:=84) (ns:=[1,1,1,1,1,1,1,1,1]) (tr:=[.reg [],.reg [.none,.none,(.pv (vB val)),.none,.none,.skip,.skip,.skip,.skip,(.dec true),.none,.skip,.skip],.auto,.reg [(.pv (vB awa))]]) (cj h1 (cj (bnot_t h2) (cj (bnot_t h2) (cj (bnot_t h2) (cj (bnot_t h2) (cj (bnot_t h2) (cj (Eq.refl true) (cj (Eq.refl true) (cj h3 True.intro))))))))) (by kernel_rfl))
theorem e1(p:List ARat)(rV:ARange)(x:AClaim)(val man awa:Bool)(h1:Contract prg 26 [(polyPV p),rV.pv] (vB val))(h2:val=true)(h3:Contract prg 34 [x.cert.pv] (vB man))(h4:man=false)(h5:Contract prg 17 [] (vB awa)):Contract prg 8 [(polyPV p),rV.pv,x.pv] (vB awa) :=
 Contract.ofL Tryz.func8 (by kernel_rfl) (L.done mixed tabOk (n:=84) (ns:=[1,1,1,1,1,1,1,1,1,1,1]) (tr:=[.reg [],.reg [.none,.none,(.pv (vB val)),.none,.none,.none,.none,(.pv (vB man)),.none,(.dec false),.none,.skip,.skip,(.dec true)],.auto,.reg [(.pv (vB awa))]]) (cj h1 (cj (bnot_f h2) (cj (bnot_f h2) (cj (bnot_f h2) (cj h3 (cj (bnot_f h2) (cj (bnot_f h2) (cj (bnot_t h4) (cj (bnot_t h4) (cj (bnot_t h4) (cj h5 True.intro))))))))))) (by kernel_rfl))
theorem e3(p:List ARat)(rV:ARange)(x:AClaim)(val man awa ver:Bool)(h1:Contract prg 26 [(polyPV p),rV.pv] (vB val))(h2:val=true)(h3:Contract prg 34 [x.cert.pv] (vB man))(h4:man=true)(h5:Contract prg 17 [] (vB awa))(h6:awa=true)(h7:Contract prg 35 [(polyPV p),rV.pv,x.cert.pv] (.tup [(vB ver),.nilI]))(h8:ver=false):Contract prg 8 [(polyPV p),rV.pv,x.pv] (vB true) :=
 Contract.ofL Tryz.func8 (by kernel_rfl) (L.done mixed tabOk (n:=105) (ns:=[1,1,1,1,1,1,1,1,1,1,1,1,1,1,1,1]) (tr:=[.reg [],.reg [.none,.none,(.pv (vB val)),.none,.none,.none,.none,(.pv (vB man)),.none,(.dec false),.none,(.pv (vB awa)),.none,(.dec false)],.dec false,.reg [.none,.none,.none,.none,(.pv (.tup [(vB ver),.nilI]))],.reg [],.dec true,.reg []]) (cj h1 (cj (bnot_f h2) (cj (bnot_f h2) (cj (bnot_f h2) (cj h3 (cj (bnot_f h2) (cj (bnot_f h2) (cj (bnot_f h4) (cj h5 (cj (bnot_f h4) (cj (bnot_f h4) (cj (bnot_f h6) (cj h7 (cj (Eq.refl false) (cj (Eq.refl false) (cj (bnot_t h8) True.intro)))))))))))))))) (by kernel_rfl))
theorem e4(p:List ARat)(rV:ARange)(x:AClaim)(val man awa ver:Bool)(ins eva:ARat)(dec:Bool)(sig:Int)(h1:Contract prg 26 [(polyPV p),rV.pv] (vB val))(h2:val=true)(h3:Contract prg 34 [x.cert.pv] (vB man))(h4:man=true)(h5:Contract prg 17 [] (vB awa))(h6:awa=true)(h7:Contract prg 35 [(polyPV p),rV.pv,x.cert.pv] (.tup [(vB ver),.nilI]))(h8:ver=true)(h9:Contract prg 28 [rV.pv,(.int .u8 (x.part:Int))] ins.pv)(h10:Contract prg 27 [(polyPV p),ins.pv] (.tup [eva.pv,.nilI]))(h11:Contract prg 19 [(polyPV p),rV.pv] (.tup [(vB dec),.nilI]))(h12:dec=true)(h13:Contract prg 39 [eva.pv] (vI sig)):Contract prg 8 [(polyPV p),rV.pv,x.pv] (vB (decide (sig>0))) :=
 Contract.ofL Tryz.func8 (by kernel_rfl) (L.done mixed tabOk (n:=120) (ns:=[1,1,1,1,1,1,1,1,1,1,1,1,1,1,1,1,1,1,1,1,1,1,1,1,1,1,1]) (tr:=[.reg [],.reg [.none,.none,(.pv (vB val)),.none,.none,.none,.none,(.pv (vB man)),.none,(.dec false),.none,(.pv (vB awa)),.none,(.dec false)],.dec false,.reg [.none,.none,.none,.none,(.pv (.tup [(vB ver),.nilI]))],.reg [],.dec false,.reg [.none,.none,.none,.none,(.pv ins.pv),(.pv (.tup [eva.pv,.nilI]))],.reg [.none,.none,(.pv (.tup [(vB dec),.nilI]))],.reg [.none,.none,.none,.none,.none,.none,.none,.none,.none,.none,.none,(.pv (vI sig)),.none,(.dec true)]]) (cj h1 (cj (bnot_f h2) (cj (bnot_f h2) (cj (bnot_f h2) (cj h3 (cj (bnot_f h2) (cj (bnot_f h2) (cj (bnot_f h4) (cj h5 (cj (bnot_f h4) (cj (bnot_f h4) (cj (bnot_f h6) (cj h7 (cj (Eq.refl false) (cj (Eq.refl false) (cj (bnot_f h8) (cj h9 (cj h10 (cj h11 (cj (Eq.refl true) (cj (Eq.refl true) (cj (Eq.refl true) (cj h12 (cj h12 (cj h13 (cj h12 (cj h12 True.intro))))))))))))))))))))))))))) (by kernel_rfl))
theorem e5(p:List ARat)(rV:ARange)(x:AClaim)(val man awa ver:Bool)(ver1:Int)(h1:Contract prg 26 [(polyPV p),rV.pv] (vB val))(h2:val=true)(h3:Contract prg 34 [x.cert.pv] (vB man))(h4:man=true)(h5:Contract prg 17 [] (vB awa))(h6:awa=true)(h7:Contract prg 35 [(polyPV p),rV.pv,x.cert.pv] (.tup [(vB ver),(.iface 94 (vI ver1))])):Contract prg 8 [(polyPV p),rV.pv,x.pv] (vB true) :=
 Contract.ofL Tryz.func8 (by kernel_rfl) (L.done mixed tabOk (n:=105) (ns:=[1,1,1,1,1,1,1,1,1,1,1,1,1,1,1]) (tr:=[.reg [],.reg [.none,.none,(.pv (vB val)),.none,.none,.none,.none,(.pv (vB man)),.none,(.dec false),.none,(.pv (vB awa)),.none,(.dec false)],.dec false,.reg [.none,.none,.none,.none,(.pv (.tup [(vB ver),(.iface 94 (vI ver1))]))],.reg [.none,.none,.none,.skip,.skip],.auto,.reg []]) (cj h1 (cj (bnot_f h2) (cj (bnot_f h2) (cj (bnot_f h2) (cj h3 (cj (bnot_f h2) (cj (bnot_f h2) (cj (bnot_f h4) (cj h5 (cj (bnot_f h4) (cj (bnot_f h4) (cj (bnot_f h6) (cj h7 (cj (Eq.refl true) (cj (Eq.refl true) True.intro))))))))))))))) (by kernel_rfl))
end linkworklaw31_PositiveRight
namespace linkworklaw31_short
@[reducible] noncomputable def fn:Func:=Tryz.f15
noncomputable def atK1:List Itm:=focus [0,2,0,0,2,0,0] [.code (bodyOf fn)]
def inv1(l:List (List ARat))(t_9:Nat):St:=⟨[(7,(.pv (lpv (lcell ARat.cells) l))),(8,(eI (l.length:Int))),(9,(eI (t_9:Int)))],[]⟩
@[reducible] noncomputable def Loop1(l:List (List ARat))(t_9:Nat)(r:PV):Prop:=L prg fn atK1 (inv1 l t_9) r
noncomputable def atK2:List Itm:=focus [0,2,0,0,2,0,0,0,0,2,0,0,2,0,0,0,2,0,0,2,1,2,0,2,0,0] [.code (bodyOf fn)]
def inv2(l:List (List ARat))(t_9:Nat)(v:List ARat)(t_18:Nat):St:=⟨[(7,(.pv (lpv (lcell ARat.cells) l))),(8,(eI (l.length:Int))),(9,(eI (t_9:Int))),(16,(.pv (polyPV v))),(17,(eI (v.length:Int))),(18,(eI (t_18:Int)))],[]⟩
@[reducible] noncomputable def Loop2(l:List (List ARat))(t_9:Nat)(v:List ARat)(t_18:Nat)(r:PV):Prop:=L prg fn atK2 (inv2 l t_9 v t_18) r
theorem e0 (l : List (List ARat)) {r : PV}  (hL : Loop1 l 0 r) : Contract prg 15 [(lpv (lcell ARat.cells) l)] r :=
 Contract.ofL Tryz.func15 (by kernel_rfl) (L.go mixed tabOk (n:=81) (ns:=[1]) (tr:=[.reg [],.reg [.none,(iI (l.length:Int))],.keep [7,8,9]]) (cj (o_len (lcell ARat.cells) l) True.intro) (by kernel_rfl) hL)
theorem l10(l:List (List ARat))(t_9:Nat)(v:List ARat)(h1:t_9<l.length)(h2:l[t_9]? = some v)(h3:6<v.length):Loop1 l t_9 (vB false) :=
 L.done mixed tabOk (n:=129) (ns:=[1,3,1,1]) (tr:=[.auto,.reg [],.dec true,.reg [(.row t_9 ((lcell ARat.cells) v))],.reg [.none,(iI (v.length:Int))],.dec true,.reg []]) (cj (dltN_t h1) (cj (o_at (lcell ARat.cells) (Eq.refl (((t_9:Nat):Int):Int)) h2) (cj (o_len ARat.cells v) (cj (dltN_t h3) True.intro)))) (by kernel_rfl)
theorem l11(l:List (List ARat))(t_9:Nat)(v:List ARat){r:PV}(h1:t_9<l.length)(h2:l[t_9]? = some v)(h3:v.length≤6)(hL:Loop2 l t_9 v 0 r):Loop1 l t_9 r :=
 L.go mixed tabOk (n:=138) (ns:=[1,3,1,1,1]) (tr:=[.auto,.reg [],.dec true,.reg [(.row t_9 ((lcell ARat.cells) v))],.reg [.none,(iI (v.length:Int))],.dec false,.reg [.none,(iI (v.length:Int))],.keep [7,8,9,16,17,18]]) (cj (dltN_t h1) (cj (o_at (lcell ARat.cells) (Eq.refl (((t_9:Nat):Int):Int)) h2) (cj (o_len ARat.cells v) (cj (dltN_f h3) (cj (o_len ARat.cells v) True.intro))))) (by kernel_rfl) hL
theorem l12(l:List (List ARat))(t_9:Nat)(h1:l.length≤t_9):Loop1 l t_9 (vB true) :=
 L.done mixed tabOk (n:=114) (ns:=[1]) (tr:=[.auto,.reg [],.dec false,.reg []]) (cj (dltN_f h1) True.intro) (by kernel_rfl)
theorem l20(l:List (List ARat))(t_9:Nat)(v:List ARat)(t_18:Nat)(v1:ARat)(low:Bool)(h1:t_18<v.length)(h2:v[t_18]? = some v1)(h3:Contract prg 69 [v1.pv,(vW (1000:UInt32)),(vW (1000:UInt32))] (vB low))(h4:low=false):Loop2 l t_9 v t_18 (vB false) :=
 L.done mixed tabOk (n:=183) (ns:=[1,3,1,1]) (tr:=[.auto,.reg [],.dec true,.reg [(.row t_18 (ARat.cells v1))],.reg [.none,(.pv (vB low))],.dec true,.reg []]) (cj (dltN_t h1) (cj (o_at ARat.cells (Eq.refl (((t_18:Nat):Int):Int)) h2) (cj h3 (cj (bnot_t h4) True.intro)))) (by kernel_rfl)
theorem l21(l:List (List ARat))(t_9:Nat)(v:List ARat)(t_18:Nat)(v1:ARat)(low:Bool){r:PV}(h1:t_18<v.length)(h2:v[t_18]? = some v1)(h3:Contract prg 69 [v1.pv,(vW (1000:UInt32)),(vW (1000:UInt32))] (vB low))(h4:low=true)(h5:(t_18+1)<9223372036854775808)(hL:Loop2 l t_9 v (t_18+1) r):Loop2 l t_9 v t_18 r :=
 L.go mixed tabOk (n:=186) (ns:=[1,3,1,1,1]) (tr:=[.auto,.reg [],.dec true,.reg [(.row t_18 (ARat.cells v1))],.reg [.none,(.pv (vB low))],.dec false,.reg [(iI (((t_18+1):Nat):Int))],.keep [7,8,9,16,17,18],.drop [6]]) (cj (dltN_t h1) (cj (o_at ARat.cells (Eq.refl (((t_18:Nat):Int):Int)) h2) (cj h3 (cj (bnot_f h4) (cj (bs_addN h5) True.intro))))) (by kernel_rfl) hL
theorem l22(l:List (List ARat))(t_9:Nat)(v:List ARat)(t_18:Nat){r:PV}(h1:v.length≤t_18)(h2:(t_9+1)<9223372036854775808)(hL:Loop1 l (t_9+1) r):Loop2 l t_9 v t_18 r :=
 L.go mixed tabOk (n:=171) (ns:=[1,1]) (tr:=[.auto,.reg [],.dec false,.reg [(iI (((t_9+1):Nat):Int))],.keep [7,8,9]]) (cj (dltN_f h1) (cj (bs_addN h2) True.intro)) (by kernel_rfl) hL
end linkworklaw31_short
namespace linkworklaw31_brief
theorem e0(rV:ARange)(sho:Bool)(h1:Contract prg 15 [(lpv (lcell ARat.cells) [[rV.lo,rV.hi]])] (vB sho)):Contract prg 16 [rV.pv] (vB sho) :=
 Contract.ofL Tryz.func16 (by kernel_rfl) (L.done mixed tabOk (n:=72) (ns:=[3,3,1]) (tr:=[.reg [],.reg [.none,.none,.none,.none,(.slc 0 0 (([rV.lo,rV.hi]:List ARat).map ARat.cells)),(.slc 0 0 (([[rV.lo,rV.hi]]:List (List ARat)).map (lcell ARat.cells))),(.pv (vB sho))]]) (cj (o_bs sz_ARat ([rV.lo,rV.hi]:List ARat)) (cj (o_bs (sz_l ARat.cells) ([[rV.lo,rV.hi]]:List (List ARat))) (cj h1 True.intro))) (by kernel_rfl))
end linkworklaw31_brief
namespace linkworklaw31_awake
theorem e0(of:ARat)(of1 ber of2:List ARat)(of3:ARat)(sca:List ARat)(mak:APosCert)(eve:Bool)(of4:List ARat)(dec:Bool)(of5:List ARat)(sam:Bool)(of6:List ARat)(sam1:Bool)(h1:Contract prg 70 [(vI 2)] of.pv)(h2:Contract prg 71 [(lpv intCell [2,(-2),1])] (polyPV of1))(h3:Contract prg 18 [(polyPV of1),(⟨(⟨false,[],[]⟩:ARat),of⟩:ARange).pv] (.tup [(polyPV ber),.nilI]))(h4:Contract prg 71 [(lpv intCell [5,(-8),4])] (polyPV of2))(h5:Contract prg 73 [(vI 1)] of3.pv)(h6:Contract prg 72 [(polyPV of2),of3.pv] (.tup [(polyPV sca),.nilI]))(h7:Contract prg 37 [(polyPV sca),(⟨(⟨false,[],[]⟩:ARat),of⟩:ARange).pv,(vI 3)] (.tup [mak.pv,.nilI]))(h8:Contract prg 20 [(polyPV sca)] (.tup [(vB eve),.nilI]))(h9:Contract prg 71 [(lpv intCell [(-1),1])] (polyPV of4))(h10:Contract prg 19 [(polyPV of4),(⟨(⟨false,[],[]⟩:ARat),of⟩:ARange).pv] (.tup [(vB dec),.nilI]))(h11:Contract prg 71 [(lpv intCell [2,0,2])] (polyPV of5))(h12:Contract prg 74 [(polyPV ber),(polyPV of5)] (vB sam))(h13:sam=true)(h14:Contract prg 71 [(lpv intCell [1])] (polyPV of6))(h15:Contract prg 74 [(polyPV mak.cuts),(polyPV of6)] (vB sam1))(h16:sam1=true)(h17:eve=true):Contract prg 17 [] (vB (!dec)) :=
 Contract.ofL Tryz.func17 (by kernel_rfl) (L.done mixed tabOk (n:=108) (ns:=[1,3,1,1,3,1,1,1,1,1,3,1,1,1,1,1,1,1,1,1,1,1,1,3,1,1,1,1,1,1,1,3,1,1,1,1,1,1,1,1,1,1]) (tr:=[.reg [],.reg [(.pv of.pv)],dr 8 1 [(.slc 0 0 (([2,(-2),1]:List Int).map intCell)),(.pv (polyPV of1)),.none,(.pv (.tup [(polyPV ber),.nilI]))],.reg [(.slc 0 0 (([5,(-8),4]:List Int).map intCell)),(.pv (polyPV of2)),(.pv of3.pv),(.pv (.tup [(polyPV sca),.nilI]))],.reg [.none,.none,(.pv (.tup [mak.pv,.nilI]))],.reg [.none,(.pv (.tup [(vB eve),.nilI]))],dr 8 1 [(.slc 0 0 (([(-1),1]:List Int).map intCell)),(.pv (polyPV of4)),.none,(.pv (.tup [(vB dec),.nilI]))],dr 38 1 [.none,.none,.none,.none,.none,.none,.none,.none,.none,.none,.none,.none,.none,.none,.none,.none,.none,.none,.none,.none,(.slc 0 0 (([2,0,2]:List Int).map intCell)),(.pv (polyPV of5)),(.pv (vB sam)),.none,.none,.none,.none,(.slc 0 0 (([1]:List Int).map intCell)),(.pv (polyPV of6)),(.pv (vB sam1)),(.dec true),.none,.none,(.dec true),.none,.none,.none,(.dec true)]]) (cj h1 (cj (o_bs sz_int ([2,(-2),1]:List Int)) (cj h2 (cj h3 (cj (o_bs sz_int ([5,(-8),4]:List Int)) (cj h4 (cj h5 (cj h6 (cj h7 (cj h8 (cj (o_bs sz_int ([(-1),1]:List Int)) (cj h9 (cj h10 (cj (Eq.refl true) (cj (Eq.refl true) (cj (Eq.refl true) (cj (Eq.refl true) (cj (Eq.refl true) (cj (Eq.refl true) (cj (Eq.refl true) (cj (Eq.refl true) (cj (Eq.refl true) (cj (Eq.refl true) (cj (o_bs sz_int ([2,0,2]:List Int)) (cj (Eq.refl true) (cj h11 (cj (Eq.refl true) (cj h12 (cj h13 (cj h13 (cj h13 (cj (o_bs sz_int ([1]:List Int)) (cj h13 (cj h14 (cj h13 (cj h15 (cj h13 (cj h16 (cj h16 (cj h17 (cj h17 (cj h17 True.intro)))))))))))))))))))))))))))))))))))))))))) (by kernel_rfl))
end linkworklaw31_awake
namespace linkworklaw31_valid
theorem e0(p:List ARat)(rV:ARange)(sho bri:Bool)(err:Int)(h1:Contract prg 15 [(lpv (lcell ARat.cells) [p])] (vB sho))(h2:sho=true)(h3:Contract prg 16 [rV.pv] (vB bri))(h4:bri=true)(h5:Contract prg 80 [(polyPV p),rV.pv] (vI err)):Contract prg 26 [(polyPV p),rV.pv] (vB (err==0)) :=
 Contract.ofL Tryz.func26 (by kernel_rfl) (L.done mixed tabOk (n:=72) (ns:=[3,1,1,1,1,1,1,1,1,1,1,1]) (tr:=[.reg [],.reg [.none,(.slc 0 0 (([p]:List (List ARat)).map (lcell ARat.cells))),(.pv (vB sho)),.none,.none,(.pv (vB bri)),(.dec true),.none,.none,.none,(.pv (vI err)),.none,(.dec true)]]) (cj (o_bs (sz_l ARat.cells) ([p]:List (List ARat))) (cj h1 (cj h2 (cj h2 (cj h3 (cj h2 (cj h4 (cj h4 (cj h4 (cj h5 (cj h4 (cj h4 True.intro)))))))))))) (by kernel_rfl))
theorem e1(p:List ARat)(rV:ARange)(sho bri:Bool)(h1:Contract prg 15 [(lpv (lcell ARat.cells) [p])] (vB sho))(h2:sho=true)(h3:Contract prg 16 [rV.pv] (vB bri))(h4:bri=false):Contract prg 26 [(polyPV p),rV.pv] (vB false) :=
 Contract.ofL Tryz.func26 (by kernel_rfl) (L.done mixed tabOk (n:=72) (ns:=[3,1,1,1,1,1,1,1,1,1,1]) (tr:=[.reg [],.reg [.none,(.slc 0 0 (([p]:List (List ARat)).map (lcell ARat.cells))),(.pv (vB sho)),.none,.none,(.pv (vB bri)),(.dec true),.none,.skip,.skip,.skip,.skip,(.dec false)]]) (cj (o_bs (sz_l ARat.cells) ([p]:List (List ARat))) (cj h1 (cj h2 (cj h2 (cj h3 (cj h2 (cj h4 (cj h4 (cj h4 (cj h4 (cj h4 True.intro))))))))))) (by kernel_rfl))
theorem e2(p:List ARat)(rV:ARange)(sho:Bool)(h1:Contract prg 15 [(lpv (lcell ARat.cells) [p])] (vB sho))(h2:sho=false):Contract prg 26 [(polyPV p),rV.pv] (vB false) :=
 Contract.ofL Tryz.func26 (by kernel_rfl) (L.done mixed tabOk (n:=72) (ns:=[3,1,1,1,1,1,1,1,1]) (tr:=[.reg [],.reg [.none,(.slc 0 0 (([p]:List (List ARat)).map (lcell ARat.cells))),(.pv (vB sho)),.none,.skip,.skip,(.dec false),.none,.skip,.skip,.skip,.skip]]) (cj (o_bs (sz_l ARat.cells) ([p]:List (List ARat))) (cj h1 (cj h2 (cj h2 (cj h2 (cj (Eq.refl false) (cj (Eq.refl false) (cj (Eq.refl false) (cj (Eq.refl false) True.intro))))))))) (by kernel_rfl))
end linkworklaw31_valid
namespace linkworklaw31_inside
theorem e0(rV:ARange)(part:Nat)(mak:ARat)(mak1:Int)(wid mul add:ARat)(h1:part<9223372036854775808)(h2:Contract prg 86 [(vI (part:Int)),(vI 255)] (.tup [mak.pv,(vI mak1)]))(h3:Contract prg 89 [rV.pv] wid.pv)(h4:Contract prg 88 [mak.pv,wid.pv] mul.pv)(h5:Contract prg 87 [rV.lo.pv,mul.pv] add.pv):Contract prg 28 [rV.pv,(.int .u8 (part:Int))] add.pv :=
 Contract.ofL Tryz.func28 (by kernel_rfl) (L.done mixed tabOk (n:=78) (ns:=[1,1,1,1,1]) (tr:=[.reg [],.reg [.none,(iI (part:Int)),(.pv (.tup [mak.pv,(vI mak1)]))],dr 7 1 [.none,.none,.none,.none,(.pv wid.pv),(.pv mul.pv),(.pv add.pv)]]) (cj (cv_i64N h1) (cj h2 (cj h3 (cj h4 (cj h5 True.intro))))) (by kernel_rfl))
end linkworklaw31_inside
namespace linkworklaw31_many
@[reducible] noncomputable def fn:Func:=Tryz.f34
noncomputable def atK1:List Itm:=focus [0,2,0,0,2,1,2,0,0,2,0,0] [.code (bodyOf fn)]
def inv1(c:APosCert)(t_24:Nat):St:=⟨[(22,(.pv (polyPV c.cuts))),(23,(eI (c.cuts.length:Int))),(24,(eI (t_24:Int)))],[]⟩
@[reducible] noncomputable def Loop1(c:APosCert)(t_24:Nat)(r:PV):Prop:=L prg fn atK1 (inv1 c t_24) r
theorem e0(c:APosCert)(h1:20<c.cuts.length)(h2:c.cuts.length≤255):Contract prg 34 [c.pv] (vB false) :=
 Contract.ofL Tryz.func34 (by kernel_rfl) (L.done mixed tabOk (n:=84) (ns:=[1,1,1,1,1,1,1,1,1,1,1,1]) (tr:=[.reg [],.reg [.none,.none,(iI (c.cuts.length:Int)),.none,.none,.none,.none,(iI (c.cuts.length:Int)),.none,(.dec true),.none,.skip,.skip,.skip,.skip,(.dec true)],.auto,.reg []]) (cj (o_len ARat.cells c.cuts) (cj (dltN_t h1) (cj (dltN_t h1) (cj (dltN_t h1) (cj (o_len ARat.cells c.cuts) (cj (dltN_t h1) (cj (dltN_t h1) (cj (dleN_t h2) (cj (dleN_t h2) (cj (dleN_t h2) (cj (dleN_t h2) (cj (dleN_t h2) True.intro)))))))))))) (by kernel_rfl))
theorem e1(c:APosCert)(h1:20<c.cuts.length)(h2:255<c.cuts.length)(h3:300<c.cuts.length):Contract prg 34 [c.pv] (vB false) :=
 Contract.ofL Tryz.func34 (by kernel_rfl) (L.done mixed tabOk (n:=84) (ns:=[1,1,1,1,1,1,1,1,1,1,1,1,1,1]) (tr:=[.reg [],.reg [.none,.none,(iI (c.cuts.length:Int)),.none,.none,.none,.none,(iI (c.cuts.length:Int)),.none,(.dec true),.none,.none,.none,(iI (c.cuts.length:Int)),.none,(.dec false)],.dec true,.reg []]) (cj (o_len ARat.cells c.cuts) (cj (dltN_t h1) (cj (dltN_t h1) (cj (dltN_t h1) (cj (o_len ARat.cells c.cuts) (cj (dltN_t h1) (cj (dltN_t h1) (cj (dleN_f h2) (cj (dleN_f h2) (cj (dleN_f h2) (cj (o_len ARat.cells c.cuts) (cj (dleN_f h2) (cj (dleN_f h2) (cj (dltN_t h3) True.intro)))))))))))))) (by kernel_rfl))
theorem e2(c:APosCert){r:PV}(h1:20<c.cuts.length)(h2:255<c.cuts.length)(h3:c.cuts.length≤300)(hL:Loop1 c 0 r):Contract prg 34 [c.pv] r :=
 Contract.ofL Tryz.func34 (by kernel_rfl) (L.go mixed tabOk (n:=96) (ns:=[1,1,1,1,1,1,1,1,1,1,1,1,1,1,1]) (tr:=[.reg [],.reg [.none,.none,(iI (c.cuts.length:Int)),.none,.none,.none,.none,(iI (c.cuts.length:Int)),.none,(.dec true),.none,.none,.none,(iI (c.cuts.length:Int)),.none,(.dec false)],.dec false,.reg [.none,.none,(iI (c.cuts.length:Int))],.keep [22,23,24],.drop [1]]) (cj (o_len ARat.cells c.cuts) (cj (dltN_t h1) (cj (dltN_t h1) (cj (dltN_t h1) (cj (o_len ARat.cells c.cuts) (cj (dltN_t h1) (cj (dltN_t h1) (cj (dleN_f h2) (cj (dleN_f h2) (cj (dleN_f h2) (cj (o_len ARat.cells c.cuts) (cj (dleN_f h2) (cj (dleN_f h2) (cj (dltN_f h3) (cj (o_len ARat.cells c.cuts) True.intro))))))))))))))) (by kernel_rfl) hL)
theorem e4(c:APosCert){r:PV}(h1:c.cuts.length≤20)(h2:c.cuts.length≤300)(hL:Loop1 c 0 r):Contract prg 34 [c.pv] r :=
 Contract.ofL Tryz.func34 (by kernel_rfl) (L.go mixed tabOk (n:=96) (ns:=[1,1,1,1,1,1,1,1,1,1,1,1,1]) (tr:=[.reg [],.reg [.none,.none,(iI (c.cuts.length:Int)),.none,.none,.skip,.skip,.skip,.skip,(.dec false),.none,.none,.none,(iI (c.cuts.length:Int))],.dec false,.reg [.none,.none,(iI (c.cuts.length:Int))],.keep [22,23,24],.drop [1]]) (cj (o_len ARat.cells c.cuts) (cj (dltN_f h1) (cj (dltN_f h1) (cj (dltN_f h1) (cj (dltN_f h1) (cj (dltN_f h1) (cj (Eq.refl false) (cj (Eq.refl false) (cj (Eq.refl false) (cj (o_len ARat.cells c.cuts) (cj (Eq.refl false) (cj (dltN_f h2) (cj (o_len ARat.cells c.cuts) True.intro))))))))))))) (by kernel_rfl) hL)
theorem l10(c:APosCert)(t_24:Nat)(v:ARat)(low:Bool)(h1:t_24<c.cuts.length)(h2:c.cuts[t_24]? = some v)(h3:Contract prg 69 [v.pv,(vW (1000:UInt32)),(vW (1000:UInt32))] (vB low))(h4:low=false):Loop1 c t_24 (vB false) :=
 L.done mixed tabOk (n:=141) (ns:=[1,3,1,1]) (tr:=[.auto,.reg [],.dec true,.reg [(.row t_24 (ARat.cells v))],.reg [.none,(.pv (vB low))],.dec true,.reg []]) (cj (dltN_t h1) (cj (o_at ARat.cells (Eq.refl (((t_24:Nat):Int):Int)) h2) (cj h3 (cj (bnot_t h4) True.intro)))) (by kernel_rfl)
theorem l11(c:APosCert)(t_24:Nat)(v:ARat)(low:Bool){r:PV}(h1:t_24<c.cuts.length)(h2:c.cuts[t_24]? = some v)(h3:Contract prg 69 [v.pv,(vW (1000:UInt32)),(vW (1000:UInt32))] (vB low))(h4:low=true)(h5:(t_24+1)<9223372036854775808)(hL:Loop1 c (t_24+1) r):Loop1 c t_24 r :=
 L.go mixed tabOk (n:=144) (ns:=[1,3,1,1,1]) (tr:=[.auto,.reg [],.dec true,.reg [(.row t_24 (ARat.cells v))],.reg [.none,(.pv (vB low))],.dec false,.reg [(iI (((t_24+1):Nat):Int))],.keep [22,23,24],.drop [4]]) (cj (dltN_t h1) (cj (o_at ARat.cells (Eq.refl (((t_24:Nat):Int):Int)) h2) (cj h3 (cj (bnot_f h4) (cj (bs_addN h5) True.intro))))) (by kernel_rfl) hL
theorem l12(c:APosCert)(t_24:Nat)(h1:c.cuts.length≤t_24):Loop1 c t_24 (vB true) :=
 L.done mixed tabOk (n:=129) (ns:=[1]) (tr:=[.auto,.reg [],.dec false,.reg []]) (cj (dltN_f h1) True.intro) (by kernel_rfl)
end linkworklaw31_many
namespace linkworklaw31_low
theorem e0(x:ARat)(num den:UInt32)(h1:x.num.length<2)(h2:x.den.length<2)(h3:x.num.length=0)(h4:x.den.length=0):Contract prg 69 [x.pv,(vW num),(vW den)] (vB true) :=
 Contract.ofL Tryz.func69 (by kernel_rfl) (L.done mixed tabOk (n:=72) (ns:=[1,1,1,1,1,1,1,1,1,1,1,1,1,1,1,1,1,1,1,1,1,1,1,1,1,1,1,1,1,1,1,1,1,1,1,1]) (tr:=[.reg [],.reg [.none,.none,(iI (x.num.length:Int)),.none,.none,.none,.none,(iI (x.den.length:Int)),.none,(.dec true),.none,.none,.none,(iI (x.num.length:Int)),.none,.none,.skip,.skip,.skip,.skip,.skip,.skip,(.dec true),(.dec true),.none,.none,.none,(iI (x.den.length:Int)),.none,.none,.skip,.skip,.skip,.skip,.skip,.skip,(.dec true)]]) (cj (o_len wordPV x.num) (cj (dltN_t h1) (cj (dltN_t h1) (cj (dltN_t h1) (cj (o_len wordPV x.den) (cj (dltN_t h1) (cj (dltN_t h1) (cj (dltN_t h2) (cj (dltN_t h2) (cj (dltN_t h2) (cj (o_len wordPV x.num) (cj (dltN_t h2) (cj (dltN_t h2) (cj (deqN_t h3) (cj (deqN_t h3) (cj (deqN_t h3) (cj (deqN_t h3) (cj (deqN_t h3) (cj (deqN_t h3) (cj (dltN_t h2) (cj (deqN_t h3) (cj (dltN_t h2) (cj (Eq.refl true) (cj (Eq.refl true) (cj (Eq.refl true) (cj (o_len wordPV x.den) (cj (Eq.refl true) (cj (Eq.refl true) (cj (deqN_t h4) (cj (deqN_t h4) (cj (deqN_t h4) (cj (deqN_t h4) (cj (deqN_t h4) (cj (deqN_t h4) (cj (Eq.refl true) (cj (deqN_t h4) True.intro)))))))))))))))))))))))))))))))))))) (by kernel_rfl))
theorem e1(x:ARat)(num den v:UInt32)(h1:x.num.length<2)(h2:x.den.length<2)(h3:x.num.length=0)(h4:x.den.length≠0)(h5:x.den[0]? = some v):Contract prg 69 [x.pv,(vW num),(vW den)] (vB (decide ((v.toNat:Int)≤(den.toNat:Int)))) :=
 Contract.ofL Tryz.func69 (by kernel_rfl) (L.done mixed tabOk (n:=72) (ns:=[1,1,1,1,1,1,1,1,1,1,1,1,1,1,1,1,1,1,1,1,1,1,1,1,1,1,1,1,1,1,1,3,1,1,1,1,1]) (tr:=[.reg [],.reg [.none,.none,(iI (x.num.length:Int)),.none,.none,.none,.none,(iI (x.den.length:Int)),.none,(.dec true),.none,.none,.none,(iI (x.num.length:Int)),.none,.none,.skip,.skip,.skip,.skip,.skip,.skip,(.dec true),(.dec true),.none,.none,.none,(iI (x.den.length:Int)),.none,.none,.none,.none,(.row 0 (wordPV v)),.none,.none,.none,(.dec false)]]) (cj (o_len wordPV x.num) (cj (dltN_t h1) (cj (dltN_t h1) (cj (dltN_t h1) (cj (o_len wordPV x.den) (cj (dltN_t h1) (cj (dltN_t h1) (cj (dltN_t h2) (cj (dltN_t h2) (cj (dltN_t h2) (cj (o_len wordPV x.num) (cj (dltN_t h2) (cj (dltN_t h2) (cj (deqN_t h3) (cj (deqN_t h3) (cj (deqN_t h3) (cj (deqN_t h3) (cj (deqN_t h3) (cj (deqN_t h3) (cj (dltN_t h2) (cj (deqN_t h3) (cj (dltN_t h2) (cj (Eq.refl true) (cj (Eq.refl true) (cj (Eq.refl true) (cj (o_len wordPV x.den) (cj (Eq.refl true) (cj (Eq.refl true) (cj (deqN_f h4) (cj (deqN_f h4) (cj (deqN_f h4) (cj (o_at wordPV (Eq.refl (0:Int)) h5) (cj (deqN_f h4) (cj (deqN_f h4) (cj (deqN_f h4) (cj (Eq.refl true) (cj (deqN_f h4) True.intro))))))))))))))))))))))))))))))))))))) (by kernel_rfl))
theorem e2(x:ARat)(num den v:UInt32)(h1:x.num.length<2)(h2:x.den.length<2)(h3:x.num.length≠0)(h4:x.num[0]? = some v)(h5:v.toNat≤num.toNat)(h6:x.den.length=0):Contract prg 69 [x.pv,(vW num),(vW den)] (vB true) :=
 Contract.ofL Tryz.func69 (by kernel_rfl) (L.done mixed tabOk (n:=72) (ns:=[1,1,1,1,1,1,1,1,1,1,1,1,1,1,1,1,3,1,1,1,1,1,1,1,1,1,1,1,1,1,1,1,1,1,1,1,1,1]) (tr:=[.reg [],.reg [.none,.none,(iI (x.num.length:Int)),.none,.none,.none,.none,(iI (x.den.length:Int)),.none,(.dec true),.none,.none,.none,(iI (x.num.length:Int)),.none,.none,.none,.none,(.row 0 (wordPV v)),.none,.none,.none,(.dec false),(.dec true),.none,.none,.none,(iI (x.den.length:Int)),.none,.none,.skip,.skip,.skip,.skip,.skip,.skip,(.dec true),(.dec true)]]) (cj (o_len wordPV x.num) (cj (dltN_t h1) (cj (dltN_t h1) (cj (dltN_t h1) (cj (o_len wordPV x.den) (cj (dltN_t h1) (cj (dltN_t h1) (cj (dltN_t h2) (cj (dltN_t h2) (cj (dltN_t h2) (cj (o_len wordPV x.num) (cj (dltN_t h2) (cj (dltN_t h2) (cj (deqN_f h3) (cj (deqN_f h3) (cj (deqN_f h3) (cj (o_at wordPV (Eq.refl (0:Int)) h4) (cj (deqN_f h3) (cj (deqN_f h3) (cj (deqN_f h3) (cj (dltN_t h2) (cj (deqN_f h3) (cj (dltN_t h2) (cj (dleN_t h5) (cj (dleN_t h5) (cj (dleN_t h5) (cj (o_len wordPV x.den) (cj (dleN_t h5) (cj (dleN_t h5) (cj (deqN_t h6) (cj (deqN_t h6) (cj (deqN_t h6) (cj (deqN_t h6) (cj (deqN_t h6) (cj (deqN_t h6) (cj (dleN_t h5) (cj (deqN_t h6) (cj (dleN_t h5) True.intro)))))))))))))))))))))))))))))))))))))) (by kernel_rfl))
theorem e3(x:ARat)(num den v v1:UInt32)(h1:x.num.length<2)(h2:x.den.length<2)(h3:x.num.length≠0)(h4:x.num[0]? = some v)(h5:v.toNat≤num.toNat)(h6:x.den.length≠0)(h7:x.den[0]? = some v1):Contract prg 69 [x.pv,(vW num),(vW den)] (vB (decide ((v1.toNat:Int)≤(den.toNat:Int)))) :=
 Contract.ofL Tryz.func69 (by kernel_rfl) (L.done mixed tabOk (n:=72) (ns:=[1,1,1,1,1,1,1,1,1,1,1,1,1,1,1,1,3,1,1,1,1,1,1,1,1,1,1,1,1,1,1,1,3,1,1,1,1,1,1]) (tr:=[.reg [],.reg [.none,.none,(iI (x.num.length:Int)),.none,.none,.none,.none,(iI (x.den.length:Int)),.none,(.dec true),.none,.none,.none,(iI (x.num.length:Int)),.none,.none,.none,.none,(.row 0 (wordPV v)),.none,.none,.none,(.dec false),(.dec true),.none,.none,.none,(iI (x.den.length:Int)),.none,.none,.none,.none,(.row 0 (wordPV v1)),.none,.none,.none,(.dec false),(.dec true)]]) (cj (o_len wordPV x.num) (cj (dltN_t h1) (cj (dltN_t h1) (cj (dltN_t h1) (cj (o_len wordPV x.den) (cj (dltN_t h1) (cj (dltN_t h1) (cj (dltN_t h2) (cj (dltN_t h2) (cj (dltN_t h2) (cj (o_len wordPV x.num) (cj (dltN_t h2) (cj (dltN_t h2) (cj (deqN_f h3) (cj (deqN_f h3) (cj (deqN_f h3) (cj (o_at wordPV (Eq.refl (0:Int)) h4) (cj (deqN_f h3) (cj (deqN_f h3) (cj (deqN_f h3) (cj (dltN_t h2) (cj (deqN_f h3) (cj (dltN_t h2) (cj (dleN_t h5) (cj (dleN_t h5) (cj (dleN_t h5) (cj (o_len wordPV x.den) (cj (dleN_t h5) (cj (dleN_t h5) (cj (deqN_f h6) (cj (deqN_f h6) (cj (deqN_f h6) (cj (o_at wordPV (Eq.refl (0:Int)) h7) (cj (deqN_f h6) (cj (deqN_f h6) (cj (deqN_f h6) (cj (dleN_t h5) (cj (deqN_f h6) (cj (dleN_t h5) True.intro))))))))))))))))))))))))))))))))))))))) (by kernel_rfl))
theorem e4(x:ARat)(num den v:UInt32)(h1:x.num.length<2)(h2:x.den.length<2)(h3:x.num.length≠0)(h4:x.num[0]? = some v)(h5:num.toNat<v.toNat):Contract prg 69 [x.pv,(vW num),(vW den)] (vB false) :=
 Contract.ofL Tryz.func69 (by kernel_rfl) (L.done mixed tabOk (n:=72) (ns:=[1,1,1,1,1,1,1,1,1,1,1,1,1,1,1,1,3,1,1,1,1,1,1,1,1,1,1,1,1,1]) (tr:=[.reg [],.reg [.none,.none,(iI (x.num.length:Int)),.none,.none,.none,.none,(iI (x.den.length:Int)),.none,(.dec true),.none,.none,.none,(iI (x.num.length:Int)),.none,.none,.none,.none,(.row 0 (wordPV v)),.none,.none,.none,(.dec false),(.dec true),.none,.skip,.skip,.skip,.skip,.skip,.skip,.skip,.skip,.skip,.skip,.skip,.skip,(.dec false)]]) (cj (o_len wordPV x.num) (cj (dltN_t h1) (cj (dltN_t h1) (cj (dltN_t h1) (cj (o_len wordPV x.den) (cj (dltN_t h1) (cj (dltN_t h1) (cj (dltN_t h2) (cj (dltN_t h2) (cj (dltN_t h2) (cj (o_len wordPV x.num) (cj (dltN_t h2) (cj (dltN_t h2) (cj (deqN_f h3) (cj (deqN_f h3) (cj (deqN_f h3) (cj (o_at wordPV (Eq.refl (0:Int)) h4) (cj (deqN_f h3) (cj (deqN_f h3) (cj (deqN_f h3) (cj (dltN_t h2) (cj (deqN_f h3) (cj (dltN_t h2) (cj (dleN_f h5) (cj (dleN_f h5) (cj (dleN_f h5) (cj (dleN_f h5) (cj (dleN_f h5) (cj (dleN_f h5) (cj (dleN_f h5) True.intro)))))))))))))))))))))))))))))) (by kernel_rfl))
theorem e5(x:ARat)(num den:UInt32)(h1:x.num.length<2)(h2:2≤x.den.length):Contract prg 69 [x.pv,(vW num),(vW den)] (vB false) :=
 Contract.ofL Tryz.func69 (by kernel_rfl) (L.done mixed tabOk (n:=72) (ns:=[1,1,1,1,1,1,1,1,1,1,1,1,1,1,1,1,1,1,1,1]) (tr:=[.reg [],.reg [.none,.none,(iI (x.num.length:Int)),.none,.none,.none,.none,(iI (x.den.length:Int)),.none,(.dec true),.none,.skip,.skip,.skip,.skip,.skip,.skip,.skip,.skip,.skip,.skip,.skip,.skip,(.dec false),.none,.skip,.skip,.skip,.skip,.skip,.skip,.skip,.skip,.skip,.skip,.skip,.skip]]) (cj (o_len wordPV x.num) (cj (dltN_t h1) (cj (dltN_t h1) (cj (dltN_t h1) (cj (o_len wordPV x.den) (cj (dltN_t h1) (cj (dltN_t h1) (cj (dltN_f h2) (cj (dltN_f h2) (cj (dltN_f h2) (cj (dltN_f h2) (cj (dltN_f h2) (cj (dltN_f h2) (cj (dltN_f h2) (cj (Eq.refl false) (cj (Eq.refl false) (cj (Eq.refl false) (cj (Eq.refl false) (cj (Eq.refl false) (cj (Eq.refl false) True.intro)))))))))))))))))))) (by kernel_rfl))
theorem e6(x:ARat)(num den:UInt32)(h1:2≤x.num.length):Contract prg 69 [x.pv,(vW num),(vW den)] (vB false) :=
 Contract.ofL Tryz.func69 (by kernel_rfl) (L.done mixed tabOk (n:=72) (ns:=[1,1,1,1,1,1,1,1,1,1,1,1,1,1,1,1,1,1]) (tr:=[.reg [],.reg [.none,.none,(iI (x.num.length:Int)),.none,.none,.skip,.skip,.skip,.skip,(.dec false),.none,.skip,.skip,.skip,.skip,.skip,.skip,.skip,.skip,.skip,.skip,.skip,.skip,.none,.none,.skip,.skip,.skip,.skip,.skip,.skip,.skip,.skip,.skip,.skip,.skip,.skip]]) (cj (o_len wordPV x.num) (cj (dltN_f h1) (cj (dltN_f h1) (cj (dltN_f h1) (cj (dltN_f h1) (cj (dltN_f h1) (cj (Eq.refl false) (cj (Eq.refl false) (cj (Eq.refl false) (cj (Eq.refl false) (cj (Eq.refl false) (cj (Eq.refl false) (cj (Eq.refl false) (cj (Eq.refl false) (cj (Eq.refl false) (cj (Eq.refl false) (cj (Eq.refl false) (cj (Eq.refl false) True.intro)))))))))))))))))) (by kernel_rfl))
end linkworklaw31_low
namespace linkworklaw31_of
@[reducible] noncomputable def fn:Func:=Tryz.f71
noncomputable def atK1:List Itm:=focus [0,2,0,2,0,0,2,0,0] [.code (bodyOf fn)]
def inv1(site_16:List ARat)(l:List Int)(t_8:Nat):St:=⟨[(3,(.row 16 0 site_16.length 3)),(6,(.pv (lpv intCell l))),(7,(eI (l.length:Int))),(8,(eI (t_8:Int)))],[(16,(.pure ((site_16:List ARat).map ARat.cells).flatten))]⟩
@[reducible] noncomputable def Loop1(site_16:List ARat)(l:List Int)(t_8:Nat)(r:PV):Prop:=L prg fn atK1 (inv1 site_16 l t_8) r
theorem e0 (l : List Int) {r : PV}  (hL : Loop1 [] l 0 r) : Contract prg 71 [(lpv intCell l)] r :=
 Contract.ofL Tryz.func71 (by kernel_rfl) (L.go mixed tabOk (n:=87) (ns:=[1]) (tr:=[.reg [],.reg [.nil],.adopt 3 16 3,.reg [.none,(iI (l.length:Int))],.keep [3,6,7,8]]) (cj (o_len intCell l) True.intro) (by kernel_rfl) hL)
theorem l10(site_16:List ARat)(l:List Int)(t_8:Nat)(v:Int)(of:ARat){r:PV}(h1:t_8<l.length)(h2:l[t_8]? = some v)(h3:Contract prg 70 [(vI v)] of.pv)(h4:((site_16++[of]):List ARat).length*56≤140737488355328)(h5:(t_8+1)<9223372036854775808)(hL:Loop1 (site_16++[of]) l (t_8+1) r):Loop1 site_16 l t_8 r :=
 L.go mixed tabOk (n:=126) (ns:=[1,3,1,6,1]) (tr:=[.auto,.reg [],.dec true,.reg [(.row t_8 (intCell v))],.reg [.none,.none,(.pv of.pv),.none,(.app ((site_16++[of]):List ARat).length (((site_16++[of]):List ARat).map ARat.cells).flatten)],.reg [(iI (((t_8+1):Nat):Int))],.keep [3,6,7,8],.drop [15]]) (cj (dltN_t h1) (cj (o_at intCell (Eq.refl (((t_8:Nat):Int):Int)) h2) (cj h3 (cj (o_appR sz_ARat (site_16:List ARat) ([of]:List ARat) 56 (Eq.refl (site_16:List ARat).length) (Eq.refl ([of]:List ARat).length) h4 rfl) (cj (bs_addN h5) True.intro))))) (by kernel_rfl) hL
theorem l11(site_16:List ARat)(l:List Int)(t_8:Nat)(h1:l.length≤t_8):Loop1 site_16 l t_8 (polyPV site_16) :=
 L.done mixed tabOk (n:=120) (ns:=[1,3]) (tr:=[.auto,.reg [],.dec false,.reg [],.frzT 2 ((site_16:List ARat).map ARat.cells)]) (cj (dltN_f h1) (cj (o_frz sz_ARat (site_16:List ARat) (Eq.refl (site_16:List ARat).length)) True.intro)) (by kernel_rfl)
end linkworklaw31_of
end Go.Proofs.YtbgkjomonebfcaaGreat.Sym.Path
namespace Go.Proofs.YtbgkjomonebfcaaGreat.Sym
open Go Path CInt
set_option linter.unusedVariables false
namespace C31
theorem of(l:List Int)(h:∀n∈l,InI64 n)(hl:l.length≤1000):Contract prg 71 [lpv intCell l] (pq (l.map (fun n=>((n:Int):Rat)))):=by
 have loop:∀d t:Nat,l.length-t=d→t≤l.length→linkworklaw31_of.Loop1 (((l.take t).map (fun n=>((n:Int):Rat))).map mkR) l t (pq (l.map (fun n=>((n:Int):Rat)))):=by
  intro d
  induction d with
  |zero =>
   intro t hd ht
   have:t=l.length:=by omega
   subst this
   rw[List.take_length]
   exact linkworklaw31_of.l11 _ _ _ (Nat.le_refl _)
  |succ d ih =>
   intro t hd ht
   obtain⟨v,hv⟩:∃v,l[t]? = some v:=⟨_,List.getElem?_eq_getElem (by omega)⟩
   have:=ih (t+1) (by omega) (by omega)
   rw[List.take_add_one,hv] at this
   refine linkworklaw31_of.l10 _ l t v (mkR ((v:Int):Rat)) (by omega) hv (CRb.Of v (h v (List.mem_of_getElem? hv))) ?_ (by omega) ?_
   ·rw[List.length_append,List.length_map,List.length_map,List.length_take,List.length_singleton];omega
   ·simpa using this
 exact linkworklaw31_of.e0 l (loop _ 0 rfl (by omega))
theorem low(x:ARat):∃b,Contract prg 69 [x.pv,vW 1000,vW 1000] (vB b)∧(b=true→x.num.length≤1∧x.den.length≤1):=by
 by_cases h1:x.num.length<2
 ·by_cases h2:x.den.length<2
  ·by_cases h3:x.num.length=0
   ·by_cases h4:x.den.length=0
    ·exact⟨_,linkworklaw31_low.e0 x _ _ h1 h2 h3 h4,fun _=>by omega⟩
    ·obtain⟨v,hv⟩:∃v,x.den[0]? = some v:=⟨_,List.getElem?_eq_getElem (by omega)⟩
     exact⟨_,linkworklaw31_low.e1 x _ _ v h1 h2 h3 h4 hv,fun _=>by omega⟩
   ·obtain⟨v,hv⟩:∃v,x.num[0]? = some v:=⟨_,List.getElem?_eq_getElem (by omega)⟩
    by_cases h5:v.toNat≤(1000:UInt32).toNat
    ·by_cases h4:x.den.length=0
     ·exact⟨_,linkworklaw31_low.e2 x _ _ v h1 h2 h3 hv h5 h4,fun _=>by omega⟩
     ·obtain⟨u,hu⟩:∃v,x.den[0]? = some v:=⟨_,List.getElem?_eq_getElem (by omega)⟩
      exact⟨_,linkworklaw31_low.e3 x _ _ v u h1 h2 h3 hv h5 h4 hu,fun _=>by omega⟩
    ·exact⟨_,linkworklaw31_low.e4 x _ _ v h1 h2 h3 hv (by omega),fun h=>by cases h⟩
  ·exact⟨_,linkworklaw31_low.e5 x _ _ h1 (by omega),fun h=>by cases h⟩
 ·exact⟨_,linkworklaw31_low.e6 x _ _ (by omega),fun h=>by cases h⟩
theorem short(l:List (List ARat))(hl:l.length≤1000):∃b,Contract prg 15 [lpv (lcell ARat.cells) l] (vB b)∧(b=true→∀p∈l,p.length≤6∧∀a∈p,a.num.length≤1∧a.den.length≤1):=by
 have inner:∀(t:Nat) (v:List ARat),v.length≤6→t<l.length→(∃b,linkworklaw31_short.Loop1 l (t+1) (vB b)∧(b=true→∀p∈l.drop (t+1),p.length≤6∧∀a∈p,a.num.length≤1∧a.den.length≤1)) →
   ∀d u:Nat,v.length-u=d→∃b,linkworklaw31_short.Loop2 l t v u (vB b)∧(b=true→(∀a∈v.drop u,a.num.length≤1∧a.den.length≤1)∧∀p∈l.drop (t+1),p.length≤6∧∀a∈p,a.num.length≤1∧a.den.length≤1):=by
  intro t v hv6 ht ⟨b0,hL,hB⟩ d
  induction d with
  |zero =>
   intro u hd
   exact⟨b0,linkworklaw31_short.l22 l t v u (by omega) (by omega) hL,fun h=>⟨(by rw[List.drop_of_length_le (by omega)];intro a ha;cases ha),hB h⟩⟩
  |succ d ih =>
   intro u hd
   obtain⟨a,ha⟩:∃a,v[u]? = some a:=⟨_,List.getElem?_eq_getElem (by omega)⟩
   obtain⟨b1,h1,h2⟩:=low a
   cases b1 with
   |false=>exact⟨false,linkworklaw31_short.l20 l t v u a _ (by omega) ha h1 rfl,fun h=>by cases h⟩
   |true =>
    obtain⟨b,g1,g2⟩:=ih (u+1) (by omega)
    refine⟨b,linkworklaw31_short.l21 l t v u a _ (by omega) ha h1 rfl (by omega) g1,fun h=>⟨fun x hx => ?_,(g2 h).2⟩⟩
    rw[drop_cons ha] at hx
    rcases List.mem_cons.1 hx with rfl|hx
    ·exact h2 rfl
    ·exact(g2 h).1 x hx
 have outer:∀d t:Nat,l.length-t=d→∃b,linkworklaw31_short.Loop1 l t (vB b)∧(b=true→∀p∈l.drop t,p.length≤6∧∀a∈p,a.num.length≤1∧a.den.length≤1):=by
  intro d
  induction d with
  |zero =>
   intro t hd
   exact⟨true,linkworklaw31_short.l12 l t (by omega),fun _=>by rw[List.drop_of_length_le (by omega)];intro p hp;cases hp⟩
  |succ d ih =>
   intro t hd
   obtain⟨v,hv⟩:∃v,l[t]? = some v:=⟨_,List.getElem?_eq_getElem (by omega)⟩
   by_cases h6:v.length≤6
   ·obtain⟨b,g1,g2⟩:=inner t v h6 (by omega) (ih (t+1) (by omega)) _ 0 rfl
    refine⟨b,linkworklaw31_short.l11 l t v (by omega) hv h6 g1,fun h p hp => ?_⟩
    rw[drop_cons hv] at hp
    rcases List.mem_cons.1 hp with rfl|hp
    ·have:=(g2 h).1
     rw[List.drop_zero] at this
     exact⟨h6,this⟩
    ·exact(g2 h).2 p hp
   ·exact⟨false,linkworklaw31_short.l10 l t v (by omega) hv (by omega),fun h=>by cases h⟩
 obtain⟨b,h1,h2⟩:=outer _ 0 rfl
 rw[List.drop_zero] at h2
 exact⟨b,linkworklaw31_short.e0 l h1,h2⟩
theorem short1(p:List ARat):∃b,Contract prg 15 [lpv (lcell ARat.cells) [p]] (vB b)∧(b=true→p.length≤6∧∀a∈p,a.num.length≤1∧a.den.length≤1):=by
 obtain⟨b,h1,h2⟩:=short [p] (by simp)
 exact⟨b,h1,fun h=>h2 h p (by simp)⟩
theorem brief(r:ARange):∃b,Contract prg 16 [r.pv] (vB b)∧(b=true→(r.lo.num.length≤1∧r.lo.den.length≤1)∧r.hi.num.length≤1∧r.hi.den.length≤1):=by
 obtain⟨b,h1,h2⟩:=short [[r.lo,r.hi]] (by simp)
 refine⟨b,linkworklaw31_brief.e0 r b h1,fun h => ?_⟩
 obtain⟨_,g⟩:=h2 h [r.lo,r.hi] (by simp)
 exact⟨g r.lo (by simp),g r.hi (by simp)⟩
theorem same(q:List Rat)(hl:q.length≤1000)(hf:Fl 68719476736 q):Contract prg 74 [pq q,pq q] (vB true):=by
 have:=CBa.Rats (q.map mkR) (q.map mkR) (by rw[lenM];omega) (fun a ha=>by
  obtain⟨x,hx,rfl⟩:=List.mem_map.1 ha
  have:=fit_mkRk (hf x hx)
  omega)
 rw[eqRs_self] at this
 exact linkworkref05_Same.e0 _ _ _ this
def exA:List Rat:=[((2:Int):Rat),((-2:Int):Rat),((1:Int):Rat)]
def exP:List Rat:=[((5:Int):Rat),((-8:Int):Rat),((4:Int):Rat)]
def exN:List Rat:=[((-1:Int):Rat),((1:Int):Rat)]
theorem fine_of'{p:List Rat}(hz:lastZ p=false)(h0:p≠[])(hl:p.length≤6)(hf:Fl 1 p):Fine 7 6 p:=by
 have h1:=Ch.of_fl hf
 exact⟨hz,h0,hl,h1.mono (by omega),by omega,by omega,by decide⟩
theorem exA_piece:Piece exA 0 2:=⟨by decide +kernel,by decide,by decide +kernel,by decide,by decide,by decide⟩
theorem exP_base:Base exP 0 2:=⟨by decide +kernel,by decide,by decide +kernel,by decide,by decide,by decide⟩
theorem exP_fine:Fine 7 6 exP:=fine_of' (by decide +kernel) (by decide +kernel) (by decide) (by decide +kernel)
theorem exN_fine:Fine 7 6 exN:=fine_of' (by decide +kernel) (by decide +kernel) (by decide) (by decide +kernel)
theorem exA_bern:bernQ exA 0 (2-0)=[((2:Int):Rat),((0:Int):Rat),((2:Int):Rat)]:=by decide +kernel
theorem exP_cut:cutQ exP 0 2 3 0 0=some [((1:Int):Rat)]:=by decide +kernel
theorem exP_pos:posR exP 0 2=true:=by decide +kernel
theorem exP_every:everyB 1 exP=true:=by decide +kernel
theorem exN_pos:posR exN 0 2=false:=by decide +kernel
theorem err0{p:List Rat}{a b:Rat}(hz:lastZ p=false)(hl:p.length≤65)(h:a≤b):err31 (p.map mkR) (mkG a b)=0:=by
 unfold err31
 rw[chk_map hz hl,if_pos rfl,if_pos (ok_mkG h)]
theorem awake:Contract prg 17 [] (vB true):=by
 have o2:=CRb.Of 2 (by unfold InI64;omega)
 have o1:=CFr.Of 1 (by unfold InI64;omega)
 have a1:=of [2, -2,1] (by unfold InI64;decide) (by decide)
 have a2:=of [5, -8,4] (by unfold InI64;decide) (by decide)
 have a4:=of [-1,1] (by unfold InI64;decide) (by decide)
 have a5:=of [2,0,2] (by unfold InI64;decide) (by decide)
 have a6:=of [1] (by unfold InI64;decide) (by decide)
 have g:(⟨⟨false,[],[]⟩,mkR ((2:Int):Rat)⟩:ARange)=mkG 0 2:=rfl
 have fg:FitG 68719476736 (mkG 0 2):=fit_mkG (by decide) (by decide)
 have chA:=CPs.check (exA.map mkR) (mkG 0 2) (fitQ exA_piece.fl (by omega)) fg
 rw[err0 exA_piece.zp (by decide) (by decide)] at chA
 have bA:=CPs.bernstein exA_piece
 rw[exA_bern] at bA
 have hB:=positive_Bernstein.e0 _ _ _ none chA bA
 have fP:Fl 1 exP:=by decide +kernel
 have hSc:=CCa.ScaleQ (a:=1) (d:=1) exP ((1:Int):Rat) exP_base.zp (by decide) fP (by decide) (by omega) (by omega)
 have eSc:trimL (smulL ((1:Int):Rat) exP)=exP:=by decide +kernel
 rw[eSc] at hSc
 have chP:=CPs.check (exP.map mkR) (mkG 0 2) (fitQ exP_base.fl (by omega)) fg
 rw[err0 exP_base.zp (by decide) (by decide)] at chP
 have dP:=CPs.decide' (Or.inr exP_fine) fP (by omega) (by omega) (lo:=0) (hi:=2) (by decide) (by decide) (by decide)
 rw[exP_pos] at dP
 have cP:=CPc.cutN exP_base 3 0 0 (by omega) (by decide)
 rw[exP_cut] at cP
 have e0:ptQ 0 2 0 0=0:=by decide +kernel
 have e1:ptQ 0 2 0 (0+1)=2:=by decide +kernel
 rw[e0,e1] at cP
 have hM:=positive_Make.e3 _ (mkG 0 2) 3 _ _ chP (by omega) (by omega) dP rfl cP
 have hE:=CPs.Everywhere (k:=1) (Or.inr exP_fine) fP (by omega) (by omega)
 rw[exP_every] at hE
 have fN:Fl 1 exN:=by decide +kernel
 have chN:=CPs.check (exN.map mkR) (mkG 0 2) (fitQ fN (by omega)) fg
 rw[err0 exN_fine.zp (by decide) (by decide)] at chN
 have dN:=CPs.decide' (Or.inr exN_fine) fN (by omega) (by omega) (lo:=0) (hi:=2) (by decide) (by decide) (by decide)
 rw[exN_pos] at dN
 have hN:=positive_Decide.e0 _ _ _ none chN dN
 have s1:=same [((2:Int):Rat),((0:Int):Rat),((2:Int):Rat)] (by decide) (by decide +kernel)
 have s2:=same [((1:Int):Rat)] (by decide) (by decide +kernel)
 exact linkworklaw31_awake.e0 _ _ _ _ _ _ _ _ _ _ _ _ _ _ o2 a1 hB a2 o1 hSc hM hE a4 hN a5 s1 rfl a6 s2 rfl rfl
theorem short_fine{p:List ARat}(h:p.length≤6∧∀a∈p,a.num.length≤1∧a.den.length≤1)(hc:chk p=0):p=(vals p).map mkR∧lastZ (vals p)=false∧(vals p).length≤6∧Fl 1 (vals p)∧(vals p=[]∨Fine 7 6 (vals p)):=by
 have hz:=chk_last hc
 have hl:(vals p).length≤6:=by unfold vals;rw[List.length_map];exact h.1
 have hf:Fl 1 (vals p):=fl_vals (fun a ha=>h.2 a ha) (by omega)
 refine⟨(vals_of (chk_valid hc)).symm,hz,hl,hf,?_⟩
 by_cases h0:vals p=[]
 ·exact Or.inl h0
 ·exact Or.inr (fine_of' hz h0 hl hf)
end C31
end Go.Proofs.YtbgkjomonebfcaaGreat.Sym
namespace Go.Proofs.YtbgkjomonebfcaaGreat.Sym
open Go Path CInt
set_option linter.unusedVariables false
def befB(pr:Option Rat)(x:Rat):Bool:=match pr with
 |some y=>decide (y<x)
 |none=>true
def verC(lo hi:Rat):Option Rat→List ARat→Int
 |_,[]=>0
 |pr,x::r=>bif x.valid then (bif decide (lo<x.val) then (bif decide (x.val<hi) then (bif befB pr x.val then verC lo hi (some x.val) r else 12) else 3) else 3) else 2
def verP(p:List Rat):Rat→List Rat→Bool
 |_,[]=>true
 |a,x::r=>clearB (bernQ p a (x-a))&&verP p x r
def verB(p:List Rat)(lo hi:Rat)(cuts:List ARat):Bool:=decide (verC lo hi none cuts=0)&&verP p lo (vals cuts++[hi])
def Asc:Rat→List Rat→Prop
 |_,[]=>True
 |a,x::r=>a≤x∧ht x≤40∧Asc x r
theorem verC_asc{lo hi:Rat}(hh:ht hi≤40):∀(l:List ARat) (pr:Option Rat) (a:Rat),(∀x∈l,x.num.length≤40∧x.den.length≤40)→verC lo hi pr l=0→(pr=none∧a=lo∨pr=some a)→a≤hi→Asc a (vals l++[hi])
 |[],pr,a,_,_,_,h=>⟨h,hh,trivial⟩
 |x::r,pr,a,hs,hv,ha,h=>by
  rw[verC] at hv
  cases h1:x.valid with
  |false=>rw[h1] at hv;exact absurd (show (2:Int)=0 from hv) (by decide)
  |true =>
   rw[h1,cond_true] at hv
   by_cases h2:lo<x.val
   ·rw[decide_eq_true h2,cond_true] at hv
    by_cases h3:x.val<hi
    ·rw[decide_eq_true h3,cond_true] at hv
     have hx:=hs x (by simp)
     have hx1:ht x.val≤40:=ht_fit hx.1 hx.2 (by omega)
     rcases ha with ⟨e,rfl⟩|e
     ·subst e
      rw[show befB none x.val=true from rfl,cond_true] at hv
      exact⟨Rat.le_of_lt h2,by omega,verC_asc hh r _ _ (fun y hy=>hs y (by simp[hy])) hv (Or.inr rfl) (Rat.le_of_lt h3)⟩
     ·subst e
      rw[show befB (some a) x.val=decide (a<x.val) from rfl] at hv
      by_cases h4:a<x.val
      ·rw[decide_eq_true h4,cond_true] at hv
       exact⟨Rat.le_of_lt h4,by omega,verC_asc hh r _ _ (fun y hy=>hs y (by simp[hy])) hv (Or.inr rfl) (Rat.le_of_lt h3)⟩
      ·rw[decide_eq_false h4,cond_false] at hv;exact absurd hv (by decide)
    ·rw[decide_eq_false h3,cond_false] at hv;exact absurd hv (by decide)
   ·rw[decide_eq_false h2,cond_false] at hv;exact absurd hv (by decide)
theorem verC_valid{lo hi:Rat} : ∀(l:List ARat) (pr:Option Rat),verC lo hi pr l=0→∀x∈l,x.valid=true
 |[],_,_,x,hx=>by cases hx
 |y::r,pr,hv,x,hx=>by
  rw[verC] at hv
  cases h1:y.valid with
  |false=>rw[h1] at hv;exact absurd (show (2:Int)=0 from hv) (by decide)
  |true =>
   rcases List.mem_cons.1 hx with rfl|hx
   ·exact h1
   ·rw[h1,cond_true] at hv
    have go:∀(V:Int) (b1 b2 b3:Bool),(bif b1 then (bif b2 then (bif b3 then V else 12) else 3) else 3)=0→V=0:=by
     intro V b1 b2 b3 h
     cases b1<;>cases b2<;>cases b3<;>first|exact h|exact absurd (show (12:Int)=0 from h) (by decide)|exact absurd (show (3:Int)=0 from h) (by decide)
    exact verC_valid r _ (go _ _ _ _ hv) x hx
def prevO(l:List ARat)(t:Nat):Option Rat:=match t with
 |0=>none
 |t+1=>(l[t]?).map ARat.val
namespace CPs
theorem Verify{p:List Rat}{lo hi:Rat}(pc:Piece p lo hi)(h1:ht lo≤1)(h2:ht hi≤1)(c:APosCert)(hs:∀x∈c.cuts,x.num.length≤40∧x.den.length≤40):Contract prg 35 [pq p,(mkG lo hi).pv,c.pv] (.tup [vB (bif Nat.ble c.cuts.length 255 then verB p lo hi c.cuts else false),errPV (errOf (bif Nat.ble c.cuts.length 255 then verC lo hi none c.cuts else 4))]):=by
 have hck:=CPs.check (p.map mkR) (mkG lo hi) (fitQ pc.fl (by omega)) (fit_mkG (by omega) (by omega))
 rw[C31.err0 pc.zp (by have:=pc.len;omega) pc.le] at hck
 by_cases hl:c.cuts.length≤255
 ·rw[Nat.ble_eq_true_of_le hl,cond_true,cond_true]
  have pieces:verC lo hi none c.cuts=0→positive_Verify.Loop2 (p.map mkR) c (mkG lo hi) 0 (mkR lo) (.tup [vB (verP p lo (vals c.cuts++[hi])),.nilI]):=by
   intro hv
   have hasc:=verC_asc (by omega) c.cuts none lo hs hv (Or.inl ⟨rfl,rfl⟩) pc.le
   have hval:=verC_valid _ _ hv
   have hL:c.cuts++[(mkG lo hi).hi]=(vals c.cuts++[hi]).map mkR:=by
    rw[List.map_append,vals_of (List.all_eq_true.2 hval)];rfl
   have hlen:(vals c.cuts++[hi]).length≤256:=by unfold vals;rw[List.length_append,List.length_map,List.length_singleton];omega
   generalize vals c.cuts++[hi]=Ls at hL hasc hlen ⊢
   have loop:∀d t:Nat,Ls.length-t=d→∀a:Rat,ht a≤40→Asc a (Ls.drop t)→positive_Verify.Loop2 (p.map mkR) c (mkG lo hi) t (mkR a) (.tup [vB (verP p a (Ls.drop t)),.nilI]):=by
    intro d
    induction d with
    |zero =>
     intro t hd a ha has
     rw[List.drop_of_length_le (by omega)]
     exact positive_Verify.l23 _ c _ t _ (by rw[hL,lenM];omega)
    |succ d ih =>
     intro t hd a ha has
     obtain⟨x,hx⟩:∃x,Ls[t]? = some x:=⟨_,List.getElem?_eq_getElem (by omega)⟩
     rw[drop_cons hx] at has ⊢
     obtain⟨g1,g2,g3⟩:=has
     have hcl:=CPs.clear (⟨pc.zp,pc.len,pc.fl,ha,g2,g1⟩:Piece p a x)
     rw[verP]
     cases hb:clearB (bernQ p a (x-a)) with
     |false=>exact positive_Verify.l20 _ c _ t _ (mkR x) _ (by rw[hL,lenM];omega) (by rw[hL];exact getM hx) (by rw[hb] at hcl;exact hcl) rfl
     |true=>exact positive_Verify.l21 _ c _ t _ (mkR x) _ (by rw[hL,lenM];omega) (by rw[hL];exact getM hx) (by rw[hb] at hcl;exact hcl) rfl (by omega) (ih (t+1) (by omega) x g2 g3)
   have:=loop _ 0 rfl lo (by omega) (by rw[List.drop_zero];exact hasc)
   rwa[List.drop_zero] at this
  have R:∀n:Int,n≠0→verC lo hi none c.cuts=n→(.tup [vB false,errPV (some n)]:PV) = .tup [vB (verB p lo hi c.cuts),errPV (errOf (verC lo hi none c.cuts))]:=by
   intro n hn e
   unfold verB
   rw[e,decide_eq_false hn,Bool.false_and]
   rw[errOf_ne hn]
  have loop:∀d t:Nat,c.cuts.length-t=d→t≤c.cuts.length→(∀x∈c.cuts.take t,x.valid=true)→verC lo hi none c.cuts=verC lo hi (prevO c.cuts t) (c.cuts.drop t)→positive_Verify.Loop1 (p.map mkR) c t (mkG lo hi) (.tup [vB (verB p lo hi c.cuts),errPV (errOf (verC lo hi none c.cuts))]):=by
   intro d
   induction d with
   |zero =>
    intro t hd ht hval hv
    rw[List.drop_of_length_le (by omega)] at hv
    have hv:verC lo hi none c.cuts=0:=by rw[hv];cases prevO c.cuts t<;>rfl
    have:=pieces hv
    unfold verB
    rw[hv,decide_eq_true rfl,Bool.true_and]
    exact positive_Verify.l16 _ c t _ (by omega) (by rw[List.nil_append];omega) (by rw[List.length_append,List.length_singleton];omega) this
   |succ d ih =>
    intro t hd ht hval hv
    obtain⟨x,hx⟩:∃x,c.cuts[t]? = some x:=⟨_,List.getElem?_eq_getElem (by omega)⟩
    have hxs:=hs x (List.mem_of_getElem? hx)
    have hvd:=CFr.Valid x ⟨by omega,by omega⟩
    rw[drop_cons hx,verC] at hv
    cases q1:x.valid with
    |false =>
     rw[q1,cond_false] at hv
     rw[←R 2 (by decide) hv]
     rw[q1] at hvd
     exact positive_Verify.l10 _ c t _ x _ (by omega) hx hvd rfl
    |true =>
     rw[q1,cond_true] at hv
     rw[q1] at hvd
     have ex:=mkR_of q1
     have hxt:Sym.ht x.val≤40:=ht_fit hxs.1 hxs.2 (by omega)
     have c1:=QF.Cmp x.val lo (by omega) (by omega)
     have c2:=QF.Cmp x.val hi (by omega) (by omega)
     rw[ex] at c1 c2
     by_cases q2:lo<x.val
     ·rw[decide_eq_true q2,cond_true] at hv
      by_cases q3:x.val<hi
      ·rw[decide_eq_true q3,cond_true] at hv
       have hval':∀y∈c.cuts.take (t+1),y.valid=true:=by
        intro y hy
        rw[List.take_add_one,hx] at hy
        rcases List.mem_append.1 hy with hy|hy
        ·exact hval y hy
        ·have:y=x:=by simpa using hy
         rw[this];exact q1
       have hpo:prevO c.cuts (t+1)=some x.val:=by show(c.cuts[t]?).map _=_;rw[hx];rfl
       cases t with
       |zero =>
        have hv:verC lo hi none c.cuts=verC lo hi (some x.val) (c.cuts.drop (0+1)):=hv
        exact positive_Verify.l15 _ c 0 _ x _ _ _ (by omega) hx hvd rfl c1 (cmpR_gt.2 q2) c2 (cmpR_lt.2 q3) (Nat.le_refl _) (by omega) (ih 1 (by omega) (by omega) hval' (by rw[hpo];exact hv))
       |succ t =>
        obtain⟨y,hy⟩:∃y,c.cuts[t]? = some y:=⟨_,List.getElem?_eq_getElem (by omega)⟩
        have hyv:y.valid=true:=hval y (by rw[List.take_add_one,hy];simp)
        have hys:=hs y (List.mem_of_getElem? hy)
        have ey:=mkR_of hyv
        have hyt:Sym.ht y.val≤40:=ht_fit hys.1 hys.2 (by omega)
        have hp0:prevO c.cuts (t+1)=some y.val:=by show(c.cuts[t]?).map _=_;rw[hy];rfl
        rw[hp0,show befB (some y.val) x.val=decide (y.val<x.val) from rfl] at hv
        have c3:=QF.Cmp x.val y.val (by omega) (by omega)
        rw[ex,ey] at c3
        by_cases q4:y.val<x.val
        ·rw[decide_eq_true q4,cond_true] at hv
         exact positive_Verify.l14 _ c (t+1) _ x _ _ _ t y _ (by omega) hx hvd rfl c1 (cmpR_gt.2 q2) c2 (cmpR_lt.2 q3) (by omega) (by unfold InI64;omega) (by omega) hy c3 (cmpR_gt.2 q4) (by omega) (ih (t+1+1) (by omega) (by omega) hval' (by rw[hpo];exact hv))
        ·rw[decide_eq_false q4,cond_false] at hv
         rw[←R 12 (by decide) hv]
         exact positive_Verify.l13 _ c (t+1) _ x _ _ _ t y _ (by omega) hx hvd rfl c1 (cmpR_gt.2 q2) c2 (cmpR_lt.2 q3) (by omega) (by unfold InI64;omega) (by omega) hy c3 (cmpR_le.2 (by grind))
      ·rw[decide_eq_false q3,cond_false] at hv
       rw[←R 3 (by decide) hv]
       exact positive_Verify.l12 _ c t _ x _ _ _ (by omega) hx hvd rfl c1 (cmpR_gt.2 q2) c2 (cmpR_ge.2 (by grind))
     ·rw[decide_eq_false q2,cond_false] at hv
      rw[←R 3 (by decide) hv]
      exact positive_Verify.l11 _ c t _ x _ _ (by omega) hx hvd rfl c1 (cmpR_le.2 (by grind))
  exact positive_Verify.e1 _ (mkG lo hi) c hck hl (loop _ 0 rfl (by omega) (by intro x hx;cases hx) (by rw[List.drop_zero];rfl))
 ·have:Nat.ble c.cuts.length 255=false:=by
   cases h:Nat.ble c.cuts.length 255 with
   |false=>rfl
   |true=>exact absurd (Nat.le_of_ble_eq_true h) hl
  rw[this,cond_false,cond_false]
  exact positive_Verify.e0 _ (mkG lo hi) c hck (by omega)
end CPs
namespace C31
theorem many(c:APosCert):∃b,Contract prg 34 [c.pv] (vB b)∧(b=true→c.cuts.length≤300∧∀x∈c.cuts,x.num.length≤1∧x.den.length≤1):=by
 have loop:c.cuts.length≤300→∀d t:Nat,c.cuts.length-t=d→∃b,linkworklaw31_many.Loop1 c t (vB b)∧(b=true→∀x∈c.cuts.drop t,x.num.length≤1∧x.den.length≤1):=by
  intro hl d
  induction d with
  |zero =>
   intro t hd
   exact⟨true,linkworklaw31_many.l12 c t (by omega),fun _=>by rw[List.drop_of_length_le (by omega)];intro x hx;cases hx⟩
  |succ d ih =>
   intro t hd
   obtain⟨a,ha⟩:∃a,c.cuts[t]? = some a:=⟨_,List.getElem?_eq_getElem (by omega)⟩
   obtain⟨b1,h1,h2⟩:=low a
   cases b1 with
   |false=>exact⟨false,linkworklaw31_many.l10 c t a _ (by omega) ha h1 rfl,fun h=>by cases h⟩
   |true =>
    obtain⟨b,g1,g2⟩:=ih (t+1) (by omega)
    refine⟨b,linkworklaw31_many.l11 c t a _ (by omega) ha h1 rfl (by omega) g1,fun h x hx => ?_⟩
    rw[drop_cons ha] at hx
    rcases List.mem_cons.1 hx with rfl|hx
    ·exact h2 rfl
    ·exact g2 h x hx
 by_cases h1:20<c.cuts.length
 ·by_cases h2:c.cuts.length≤255
  ·exact⟨false,linkworklaw31_many.e0 c h1 h2,fun h=>by cases h⟩
  ·by_cases h3:300<c.cuts.length
   ·exact⟨false,linkworklaw31_many.e1 c h1 (by omega) h3,fun h=>by cases h⟩
   ·obtain⟨b,g1,g2⟩:=loop (by omega) _ 0 rfl
    rw[List.drop_zero] at g2
    exact⟨b,linkworklaw31_many.e2 c h1 (by omega) (by omega) g1,fun h=>⟨by omega,g2 h⟩⟩
 ·obtain⟨b,g1,g2⟩:=loop (by omega) _ 0 rfl
  rw[List.drop_zero] at g2
  exact⟨b,linkworklaw31_many.e4 c (by omega) (by omega) g1,fun h=>⟨by omega,g2 h⟩⟩
end C31
end Go.Proofs.YtbgkjomonebfcaaGreat.Sym
namespace Go.Proofs.YtbgkjomonebfcaaGreat.Sym
open Go Path CInt
set_option linter.unusedVariables false
def mean:Nat→(Nat→Rat)→Rat→Rat
 |0,f,_=>f 0
 |n+1,f,u=>(1-u)*mean n f u+u*mean n (fun j=>f (j+1)) u
theorem mean_congr:∀(n:Nat) (f g:Nat→Rat) (u:Rat),(∀j,j≤n→f j=g j)→mean n f u=mean n g u
 |0,f,g,u,h=>h 0 (Nat.le_refl _)
 |n+1,f,g,u,h=>by
  rw[mean,mean,mean_congr n f g u (fun j hj=>h j (by omega)),mean_congr n (fun j=>f (j+1)) (fun j=>g (j+1)) u (fun j hj=>h (j+1) (by omega))]
theorem mean_add:∀(n:Nat) (f g:Nat→Rat) (u:Rat),mean n (fun j=>f j+g j) u=mean n f u+mean n g u
 |0,f,g,u=>rfl
 |n+1,f,g,u=>by
  rw[mean,mean,mean,mean_add n f g u,mean_add n (fun j=>f (j+1)) (fun j=>g (j+1)) u];grind
theorem mean_smul(c:Rat):∀(n:Nat) (f:Nat→Rat) (u:Rat),mean n (fun j=>c*f j) u=c*mean n f u
 |0,f,u=>rfl
 |n+1,f,u=>by
  rw[mean,mean,mean_smul c n f u,mean_smul c n (fun j=>f (j+1)) u];grind
theorem mean_zero:∀(n:Nat) (u:Rat),mean n (fun _=>0) u=0
 |0,u=>rfl
 |n+1,u=>by rw[mean,mean_zero n u];grind
theorem mean_ge{m:Rat} : ∀(n:Nat) (f:Nat→Rat) (u:Rat),0≤u→u≤1→(∀j,j≤n→m≤f j)→m≤mean n f u
 |0,f,u,_,_,h=>h 0 (Nat.le_refl _)
 |n+1,f,u,h0,h1,h=>by
  have a:=mean_ge n f u h0 h1 (fun j hj=>h j (by omega))
  have b:=mean_ge n (fun j=>f (j+1)) u h0 h1 (fun j hj=>h (j+1) (by omega))
  have c:=Rat.mul_le_mul_of_nonneg_left a (show 0≤1-u by grind)
  have d:=Rat.mul_le_mul_of_nonneg_left b h0
  rw[mean]
  grind
theorem pow_nonneg'{u:Rat}(h:0≤u):∀n:Nat,0≤u^n
 |0=>by rw[Rat.pow_zero];decide
 |n+1=>by rw[Rat.pow_succ];exact Rat.mul_nonneg (pow_nonneg' h n) h
theorem mean_first:∀(n:Nat) (f:Nat→Rat) (u:Rat),0≤u→u≤1→(∀j,j≤n→0≤f j)→f 0*(1-u)^n≤mean n f u
 |0,f,u,_,_,h=>by rw[Rat.pow_zero,Rat.mul_one];exact Rat.le_refl
 |n+1,f,u,h0,h1,h=>by
  have a:=mean_first n f u h0 h1 (fun j hj=>h j (by omega))
  have b:=mean_ge (m:=0) n (fun j=>f (j+1)) u h0 h1 (fun j hj=>h (j+1) (by omega))
  have c:=Rat.mul_le_mul_of_nonneg_left a (show 0≤1-u by grind)
  have d:=Rat.mul_nonneg h0 b
  rw[mean,Rat.pow_succ]
  grind
theorem mean_last:∀(n:Nat) (f:Nat→Rat) (u:Rat),0≤u→u≤1→(∀j,j≤n→0≤f j)→f n*u^n≤mean n f u
 |0,f,u,_,_,h=>by rw[Rat.pow_zero,Rat.mul_one];exact Rat.le_refl
 |n+1,f,u,h0,h1,h=>by
  have a:=mean_ge (m:=0) n f u h0 h1 (fun j hj=>h j (by omega))
  have b:=mean_last n (fun j=>f (j+1)) u h0 h1 (fun j hj=>h (j+1) (by omega))
  have c:=Rat.mul_nonneg (show 0≤1-u by grind) a
  have d:=Rat.mul_le_mul_of_nonneg_left b h0
  rw[mean,Rat.pow_succ]
  grind
theorem pow_le'{u v:Rat}(h0:0≤u)(h:u≤v):∀n:Nat,u^n≤v^n
 |0=>by rw[Rat.pow_zero,Rat.pow_zero];exact Rat.le_refl
 |n+1=>by
  have a:=Rat.mul_le_mul_of_nonneg_left h (pow_nonneg' h0 n)
  have b:=Rat.mul_le_mul_of_nonneg_right (pow_le' h0 h n) (Rat.le_trans h0 h)
  rw[Rat.pow_succ,Rat.pow_succ]
  exact Rat.le_trans a b
theorem mean_pos{n:Nat}{f:Nat→Rat}(h:∀j,j≤n→0≤f j)(ha:0<f 0)(hb:0<f n):∃c,0<c∧∀u,0≤u→u≤1→c≤mean n f u:=by
 have hp:0<((1:Rat)/2)^n:=by
  have:∀n:Nat,0<((1:Rat)/2)^n:=by
   intro n
   induction n with
   |zero=>rw[Rat.pow_zero];decide
   |succ n ih=>rw[Rat.pow_succ];exact Rat.mul_pos ih (by decide +kernel)
  exact this n
 refine⟨minR (f 0*(1/2)^n) (f n*(1/2)^n),?_,fun u h0 h1 => ?_⟩
 ·unfold minR
  split
  ·exact Rat.mul_pos ha hp
  ·exact Rat.mul_pos hb hp
 ·have half:(1:Rat)/2+1/2=1:=by decide +kernel
  have hh:(0:Rat)≤1/2:=by decide +kernel
  rcases Rat.le_total (a:=1/2) (b:=u) with hu|hu
  ·refine Rat.le_trans (minR_le_r _ _) (Rat.le_trans ?_ (mean_last n f u h0 h1 h))
   exact Rat.mul_le_mul_of_nonneg_left (pow_le' hh hu n) (Rat.le_of_lt hb)
  ·refine Rat.le_trans (minR_le_l _ _) (Rat.le_trans ?_ (mean_first n f u h0 h1 h))
   exact Rat.mul_le_mul_of_nonneg_left (pow_le' hh (by grind) n) (Rat.le_of_lt ha)
theorem choQ_zero(n:Int):choQ n 0=1:=rfl
theorem int_ne{k:Nat} : (((k+1:Nat):Int):Rat)≠0:=fun e=>by
 have:=Rat.intCast_inj.1 (show (((k+1:Nat):Int):Rat)=((0:Int):Rat) from e);omega
theorem choQ_step(n:Int)(i:Nat):choQ n (i+1)*(((i+1:Nat):Int):Rat)=choQ n i*((n-(i:Int):Int):Rat):=by
 rw[choQ,Rat.divInt_eq_div,Rat.div_def]
 have h:=Rat.inv_mul_cancel _ (int_ne (k:=i))
 generalize ((((i+1:Nat):Int):Rat))⁻¹=v at h ⊢
 generalize (((i+1:Nat):Int):Rat)=w at h ⊢
 have:choQ n i*(((n-(i:Int):Int):Rat)*v)*w=choQ n i*((n-(i:Int):Int):Rat)*(v*w):=by grind
 rw[this,h,Rat.mul_one]
theorem choQ_pascal(n:Int):∀i:Nat,choQ (n+1) (i+1)=choQ n (i+1)+choQ n i
 |0=>by
  have a:=choQ_step (n+1) 0
  have b:=choQ_step n 0
  rw[choQ_zero] at a b ⊢
  have e1:(((0+1:Nat):Int):Rat)=1:=rfl
  rw[e1] at a b
  have e2:((n+1-((0:Nat):Int):Int):Rat)=(n:Rat)+1:=by
   rw[show n+1-((0:Nat):Int)=n+1 from by omega,Rat.intCast_add];rfl
  have e3:((n-((0:Nat):Int):Int):Rat)=(n:Rat):=by
   rw[show n-((0:Nat):Int)=n from by omega]
  rw[e2] at a
  rw[e3] at b
  grind
 |i+1=>by
  have ih:=choQ_pascal n i
  have a:=choQ_step (n+1) (i+1)
  have b:=choQ_step n (i+1)
  have c:=choQ_step n i
  have hne:=int_ne (k:=i+1)
  refine mul_right_inj'' hne ?_
  rw[a,Rat.add_mul,b]
  rw[ih]
  have e1:((n+1-((i+1:Nat):Int):Int):Rat)=((n-(i:Int):Int):Rat):=by congr 1;omega
  have e2:((n-((i+1:Nat):Int):Int):Rat)=((n-(i:Int):Int):Rat)-1:=by
   rw[show n-((i+1:Nat):Int)=(n-(i:Int))-1 from by omega,Rat.intCast_sub];rfl
  have e3:(((i+1+1:Nat):Int):Rat)=(((i+1:Nat):Int):Rat)+1:=by
   rw[show ((i+1+1:Nat):Int)=((i+1:Nat):Int)+1 from by omega,Rat.intCast_add];rfl
  rw[e1,e2,e3]
  generalize (((i+1:Nat):Int):Rat)=w at c ⊢
  generalize ((n-(i:Int):Int):Rat)=v at c ⊢
  generalize choQ n (i+1)=x at c ⊢
  generalize choQ n i=y at c ⊢
  grind
where
 mul_right_inj'' {a b c:Rat} (hc:c≠0) (h:a*c=b*c):a=b:=mul_right_inj' hc h
theorem choQ_none:∀(j i:Nat),j<i→choQ (j:Int) i=0
 |j,i+1,h=>by
  by_cases e:j=i
  ·subst e
   rw[choQ,Rat.divInt_eq_div,show((j:Int)-(j:Int))=0 from by omega,Rat.div_def,show((0:Int):Rat)=0 from rfl,Rat.zero_mul,Rat.mul_zero]
  ·rw[choQ,choQ_none j i (by omega),Rat.zero_mul]
theorem mean_cho(u:Rat):∀(n i:Nat),mean n (fun j=>choQ (j:Int) i) u=choQ (n:Int) i*u^i
 |0,0=>by show(1:Rat)=1*u^0;rw[Rat.pow_zero,Rat.mul_one]
 |0,i+1=>by show choQ ((0:Nat):Int) (i+1)=choQ ((0:Nat):Int) (i+1)*_;rw[choQ_none 0 (i+1) (by omega),Rat.zero_mul]
 |n+1,0=>by
  rw[mean]
  have a:=mean_cho u n 0
  have e:mean n (fun j=>choQ ((j+1:Nat):Int) 0) u=mean n (fun j=>choQ (j:Int) 0) u:=mean_congr _ _ _ _ (fun j _=>rfl)
  rw[e,a,choQ_zero,choQ_zero]
  grind
 |n+1,i+1=>by
  rw[mean]
  have a:=mean_cho u n (i+1)
  have b:=mean_cho u n i
  have e:mean n (fun j=>choQ ((j+1:Nat):Int) (i+1)) u=mean n (fun j=>choQ (j:Int) (i+1)) u+mean n (fun j=>choQ (j:Int) i) u:=by
   rw[←mean_add]
   exact mean_congr _ _ _ _ (fun j _=>choQ_pascal (j:Int) i)
  rw[e,a,b]
  have:=choQ_pascal (n:Int) i
  rw[show ((n+1:Nat):Int)=(n:Int)+1 from rfl,this,Rat.pow_succ]
  grind
theorem berS_all{q:List Rat}{n:Int}{j:Nat} : ∀d:Nat,berS q n j (j+1+d)=berS q n j (j+1)
 |0=>rfl
 |d+1=>by
  show berS q n j (j+1+d)+choQ (j:Int) (j+1+d)/choQ n (j+1+d)*coef q (j+1+d)=_
  rw[berS_all d,choQ_none j (j+1+d) (by omega),Rat.div_def,Rat.zero_mul,Rat.zero_mul,Rat.add_zero]
theorem mean_ber(q:List Rat)(n:Nat)(u:Rat):∀t:Nat,t≤n+1→mean n (fun j=>berS q (n:Int) j t) u=evalL (q.take t) u
 |0,_=>by
  show mean n (fun _=>0) u=0
  exact mean_zero n u
 |t+1,h=>by
  have ih:=mean_ber q n u t (by omega)
  have e:mean n (fun j=>berS q (n:Int) j (t+1)) u=mean n (fun j=>berS q (n:Int) j t) u+coef q t/choQ (n:Int) t*mean n (fun j=>choQ (j:Int) t) u:=by
   rw[←mean_smul,←mean_add]
   refine mean_congr _ _ _ _ (fun j _ => ?_)
   rw[berS,Rat.div_def,Rat.div_def]
   grind
  have hne:choQ (n:Int) t≠0:=by
   have:=choQ_pos (n:=(n:Int)) t (by omega)
   grind
  have hinv:=Rat.inv_mul_cancel _ hne
  rw[e,ih,mean_cho,Rat.div_def]
  have e2:coef q t*(choQ (n:Int) t)⁻¹*(choQ (n:Int) t*u^t)=coef q t*u^t*((choQ (n:Int) t)⁻¹*choQ (n:Int) t):=by grind
  rw[e2,hinv,Rat.mul_one]
  by_cases hl:t<q.length
  ·rw[List.take_add_one,coef_get hl]
   show _=evalL (q.take t++[coef q t]) u
   rw[evalL_snoc2,List.length_take,Nat.min_eq_left (by omega)]
  ·rw[coef_ge (by omega),List.take_of_length_le (by omega),List.take_of_length_le (show q.length≤t+1 by omega)]
   grind
where
 evalL_snoc2 (a x:Rat):∀q:List Rat,evalL (q++[a]) x=evalL q x+a*x^q.length
  |[]=>by show 0*x+a=0+a*x^0;rw[Rat.pow_zero];grind
  |b::r=>by
   show evalL (r++[a]) x*x+b=evalL r x*x+b+a*x^(r.length+1)
   rw[evalL_snoc2 a x r,Rat.pow_succ]
   grind
theorem comp_len{p:List Rat}{lo w:Rat} : (subL p lo w).length≤p.length:=by
 have h:∀p:List Rat,∀i,p.length≤i→coef (compL p (trimL [lo,w])) i=0:=by
  intro p
  induction p with
  |nil=>intro i _;rfl
  |cons a r ih =>
   intro i hi
   rw[compL,coef_addL]
   have h1:coef (mulL (compL r (trimL [lo,w])) (trimL [lo,w])) i=coef (mulL (trimL [lo,w]) (compL r (trimL [lo,w]))) i:=coef_mul_comm _ _ _
   have hc:∀i,coef (mulL (trimL [lo,w]) (compL r (trimL [lo,w]))) i=coef (mulL [lo,w] (compL r (trimL [lo,w]))) i:=by
    intro i
    exact eval_coef (fun x=>by rw[evalL_mulL,evalL_mulL,evalL_trimL]) i
   rw[List.length_cons] at hi
   obtain⟨k,rfl⟩:∃k,i=k+1:=⟨i-1,by omega⟩
   rw[h1,hc,coef_mul_cons,coef_succ,coef_mul_cons,ih (k+1) (by omega),ih k (by omega)]
   have:coef (0::mulL [] (compL r (trimL [lo,w]))) k=0:=by cases k<;>rfl
   rw[this]
   have:coef [a] (k+1)=0:=rfl
   rw[this]
   grind
 rcases Nat.lt_or_ge p.length (subL p lo w).length with hl|hl
 ·exfalso
  have hz:lastZ (subL p lo w)=false:=lastZ_trimL _
  have hne:subL p lo w≠[]:=by intro e;rw[e] at hl;simp at hl
  have:=top_ne hz hne
  apply this
  unfold topL
  show coef (trimL _) _=0
  rw[coef_trimL]
  refine h p _ ?_
  show p.length≤(subL p lo w).length-1
  omega
 ·exact hl
theorem bern_mean{p:List Rat}(h0:p≠[])(lo w u:Rat):evalL p (lo+w*u)=mean (p.length-1) (coef (bernQ p lo w)) u:=by
 have hp:=List.length_pos_iff.2 h0
 have e:((p.length-1:Nat):Int)=(p.length:Int)-1:=by omega
 have h:=mean_ber (subL p lo w) (p.length-1) u p.length (by omega)
 rw[List.take_of_length_le comp_len,sub_eval] at h
 rw[←h]
 refine mean_congr _ _ _ _ (fun j hj => ?_)
 have h2:=berS_all (q:=subL p lo w) (n:=(p.length:Int)-1) (j:=j) (p.length-(j+1))
 rw[show j+1+(p.length-(j+1))=p.length from by omega] at h2
 rw[e,h2]
 have:(bernQ p lo w)[j]? = some (berS (subL p lo w) ((p.length:Int)-1) j (j+1)):=tabL_get _ (by omega)
 exact(coef_of this).symm
end Go.Proofs.YtbgkjomonebfcaaGreat.Sym
namespace Go.Proofs.YtbgkjomonebfcaaGreat.Sym
open Go Path CInt
set_option linter.unusedVariables false
theorem clear_pos{p:List Rat}{a x:Rat}(h:a≤x)(hc:clearB (bernQ p a (x-a))=true):p≠[]∧Pos p a x:=by
 unfold clearB at hc
 rw[Bool.and_eq_true,Bool.and_eq_true,decide_eq_true_eq,decide_eq_true_eq,List.all_eq_true] at hc
 obtain⟨h1,h2,h3⟩:=hc
 have h0:p≠[]:=by
  intro e
  subst e
  exact absurd h2 (by show ¬(0:Rat)<0;exact Rat.lt_irrefl)
 have hp:=List.length_pos_iff.2 h0
 rw[bern_len] at h3
 have hn:∀j,j≤p.length-1→0≤coef (bernQ p a (x-a)) j:=by
  intro j hj
  have:=coef_get (p:=bernQ p a (x-a)) (i:=j) (by rw[bern_len];omega)
  exact of_decide_eq_true (h1 _ (List.mem_of_getElem? this))
 obtain⟨c,c1,c2⟩:=mean_pos hn h2 h3
 refine⟨h0,c,c1,fun y y1 y2 => ?_⟩
 by_cases hw:x=a
 ·have:=c2 0 (by decide) (by decide)
  rw[←bern_mean h0] at this
  have e:a+(x-a)*0=y:=by grind
  rwa[e] at this
 ·have hw:0<x-a:=by grind
  have hinv:=Rat.mul_inv_cancel _ (show x-a≠0 by grind)
  have hi:=Rat.le_of_lt (Rat.inv_pos.2 hw)
  have u0:0≤(y-a)*(x-a)⁻¹:=Rat.mul_nonneg (by grind) hi
  have u1:(y-a)*(x-a)⁻¹≤1:=by
   have:=Rat.mul_le_mul_of_nonneg_right (show y-a≤x-a by grind) hi
   rwa[hinv] at this
  have:=c2 _ u0 u1
  rw[←bern_mean h0] at this
  have e:a+(x-a)*((y-a)*(x-a)⁻¹)=y:=by
   have:(x-a)*((y-a)*(x-a)⁻¹)=(y-a)*((x-a)*(x-a)⁻¹):=by grind
   rw[this,hinv];grind
  rwa[e] at this
def lastD:Rat→List Rat→Rat
 |a,[]=>a
 |_,x::r=>lastD x r
theorem lastD_snoc:∀(l:List Rat) (a x:Rat),lastD a (l++[x])=x
 |[],a,x=>rfl
 |y::r,a,x=>lastD_snoc r y x
theorem verP_pos{p:List Rat} : ∀(l:List Rat) (a:Rat),l≠[]→Asc a l→verP p a l=true→p≠[]∧Pos p a (lastD a l)
 |[],a,h,_,_=>absurd rfl h
 |[x],a,_,h,hv=>by
  rw[verP,Bool.and_eq_true] at hv
  exact clear_pos h.1 hv.1
 |x::y::r,a,_,h,hv=>by
  rw[verP,Bool.and_eq_true] at hv
  obtain⟨p0,c1,c2,c3⟩:=clear_pos h.1 hv.1
  obtain⟨_,d1,d2,d3⟩:=verP_pos (y::r) x (by simp) h.2.2 hv.2
  refine⟨p0,minR c1 d1,by unfold minR;split<;>assumption,fun z z1 z2 => ?_⟩
  rcases Rat.le_total (a:=z) (b:=x) with hz|hz
  ·exact Rat.le_trans (minR_le_l _ _) (c3 z z1 hz)
  ·exact Rat.le_trans (minR_le_r _ _) (d3 z hz z2)
theorem posR_of{p:List Rat}{lo hi:Rat}(hz:lastZ p=false)(h0:p≠[])(h:lo≤hi)(hp:Pos p lo hi):posR p lo hi=true:=by
 obtain⟨a,b⟩:=(pos_iff hz h0 h).2 hp
 unfold posR
 rw[decide_eq_true a,Bool.true_and,b]
 simp
namespace C31
structure Sh (p:List ARat) (r:ARange):Prop where
 ep:pq (vals p)=polyPV p
 er:mkG r.lo.val r.hi.val=r
 pl:p.length=(vals p).length
 zp:lastZ (vals p)=false
 len:(vals p).length≤6
 fl:Fl 1 (vals p)
 fine:vals p=[]∨Fine 7 6 (vals p)
 t1:ht r.lo.val≤1
 t2:ht r.hi.val≤1
 le:r.lo.val≤r.hi.val
 ck:Contract prg 75 [polyPV p,r.pv] .nilI
theorem valid(p:List ARat)(r:ARange):Contract prg 26 [polyPV p,r.pv] (vB false)∨(Sh p r∧Contract prg 26 [polyPV p,r.pv] (vB true)):=by
 obtain⟨b1,h1,g1⟩:=short1 p
 cases b1 with
 |false=>exact Or.inl (linkworklaw31_valid.e2 p r _ h1 rfl)
 |true =>
  obtain⟨b2,h2,g2⟩:=brief r
  cases b2 with
  |false=>exact Or.inl (linkworklaw31_valid.e1 p r _ _ h1 rfl h2 rfl)
  |true =>
   have g1:=g1 rfl
   obtain⟨g2,g2'⟩:=g2 rfl
   have fp:FitP 274877906944 p:=fun a ha=>by have:=g1.2 a ha;omega
   have fr:FitG 68719476736 r:=⟨by omega,by omega⟩
   have ck:=CPs.check p r fp fr
   have cr:=CPt.Error p r fp fr
   have hv:=linkworklaw31_valid.e0 p r _ _ _ h1 rfl h2 rfl cr
   by_cases he:err31 p r=0
   ·have hc:chk p=0:=by
     unfold err31 at he
     by_cases h:chk p=0
     ·exact h
     ·rw[if_neg h] at he;exact he
    have hr:r.ok=true:=by
     unfold err31 at he
     rw[if_pos hc] at he
     by_cases h:r.ok=true
     ·exact h
     ·rw[if_neg h] at he;exact absurd he (by decide)
    rw[he] at hv ck
    obtain⟨e,hz,hl,hf,hfn⟩:=short_fine g1 hc
    obtain⟨v1,v2,v3⟩:=ok_parts hr
    refine Or.inr ⟨⟨by show polyPV ((vals p).map mkR)=_;rw[←e],?_,by unfold vals;rw[List.length_map],hz,hl,hf,hfn,ht_fit g2.1 g2.2 (by omega),ht_fit g2'.1 g2'.2 (by omega),v3,ck⟩,hv⟩
    unfold mkG
    rw[mkR_of v1,mkR_of v2]
   ·rw[show (err31 p r==0)=false from by simpa using he] at hv
    exact Or.inl hv
theorem Sh.piece{p:List ARat}{r:ARange}(s:Sh p r):Piece (vals p) r.lo.val r.hi.val :=
 ⟨s.zp,by have:=s.len;omega,fl_mono s.fl (by omega),by have:=s.t1;omega,by have:=s.t2;omega,s.le⟩
def partQ(n:Nat):Rat:=Rat.divInt (n:Int) 255
theorem part_in{n:Nat}(h:n≤255):0≤partQ n∧partQ n≤1∧ht (partQ n)≤1:=by
 have h1:=ht_divInt (n:Int) 255
 have h2:wl (n:Int)≤1:=wl_le (by omega)
 have h3:wl (255:Int)≤1:=wl_le (by decide)
 have i:(0:Rat)≤(((255:Int):Rat))⁻¹:=by decide +kernel
 have j:((255:Int):Rat)*(((255:Int):Rat))⁻¹=1:=by decide +kernel
 unfold partQ
 refine⟨?_,?_,by omega⟩
 ·rw[Rat.divInt_eq_div,Rat.div_def]
  exact Rat.mul_nonneg (Rat.intCast_le_intCast.2 (show (0:Int)≤_ by omega)) i
 ·rw[Rat.divInt_eq_div,Rat.div_def,←j]
  exact Rat.mul_le_mul_of_nonneg_right (Rat.intCast_le_intCast.2 (by omega)) i
theorem inside{p:List ARat}{r:ARange}(s:Sh p r){n:Nat}(h:n≤255):Contract prg 28 [r.pv,.int .u8 (n:Int)] (mkR (r.lo.val+partQ n*(r.hi.val-r.lo.val))).pv∧ht (r.lo.val+partQ n*(r.hi.val-r.lo.val))≤10:=by
 have t1:=s.t1
 have t2:=s.t2
 obtain⟨_,_,t3⟩:=part_in h
 have t4:=ht_sub r.hi.val r.lo.val
 have t5:=ht_mul (partQ n) (r.hi.val-r.lo.val)
 have t6:=ht_add r.lo.val (partQ n*(r.hi.val-r.lo.val))
 have hw:=CPt.Width r.lo.val r.hi.val (by omega) (by omega) s.le
 have hm:=QR.Mul (partQ n) (r.hi.val-r.lo.val) (by omega) (by omega)
 have ha:=QR.Add r.lo.val (partQ n*(r.hi.val-r.lo.val)) (by omega) (by omega)
 rw[s.er] at hw
 have hlo:mkR r.lo.val=r.lo:=congrArg ARange.lo s.er
 rw[hlo] at ha
 exact⟨linkworklaw31_inside.e0 r n _ _ _ _ _ (by omega) (QR.Make (n:Int) 255 (by unfold InI64;omega) (by unfold InI64;omega) (by omega)) hw hm ha,by omega⟩
theorem Sh.eval{p:List ARat}{r:ARange}(s:Sh p r){x:Rat}(h:ht x≤10):Contract prg 27 [polyPV p,(mkR x).pv] (.tup [(mkR (evalL (vals p) x)).pv,.nilI])∧ht (evalL (vals p) x)≤200:=by
 have hl:=s.len
 have:=CPs.EvalQ (vals p) x s.zp (by omega) (k:=10) (fl_mono s.fl (by omega)) h (by omega)
 rw[s.ep] at this
 have h2:=ht_eval (vals p) x 10 (fl_mono s.fl (by omega)) h
 have h3:(vals p).length*(2*10+1)≤6*(2*10+1):=Nat.mul_le_mul_right _ hl
 exact⟨this,by omega⟩
theorem PositiveRight(p:List ARat)(r:ARange)(x:AClaim)(hx:x.part≤255):Contract prg 8 [polyPV p,r.pv,x.pv] (vB true):=by
 rcases valid p r with hv|⟨s,hv⟩
 ·exact linkworklaw31_PositiveRight.e0 p r x _ _ hv rfl awake
 obtain⟨b3,h3,g3⟩:=many x.cert
 cases b3 with
 |false=>exact linkworklaw31_PositiveRight.e1 p r x _ _ _ hv rfl h3 rfl awake
 |true =>
  obtain⟨_,g3⟩:=g3 rfl
  have g3:∀y∈x.cert.cuts,y.num.length≤40∧y.den.length≤40:=fun y hy=>by have:=g3 y hy;omega
  have V:=CPs.Verify s.piece s.t1 s.t2 x.cert g3
  rw[s.ep,s.er] at V
  by_cases hl:x.cert.cuts.length≤255
  ·rw[Nat.ble_eq_true_of_le hl,cond_true,cond_true] at V
   by_cases hc:verC r.lo.val r.hi.val none x.cert.cuts=0
   ·rw[hc] at V
    cases hb:verB (vals p) r.lo.val r.hi.val x.cert.cuts with
    |false =>
     rw[hb] at V
     exact linkworklaw31_PositiveRight.e3 p r x _ _ _ _ hv rfl h3 rfl awake rfl V rfl
    |true =>
     rw[hb] at V
     unfold verB at hb
     rw[Bool.and_eq_true] at hb
     have hasc:=verC_asc (by have:=s.t2;omega) x.cert.cuts none r.lo.val g3 hc (Or.inl ⟨rfl,rfl⟩) s.le
     obtain⟨p0,hpos⟩:=verP_pos _ _ (by simp) hasc hb.2
     rw[lastD_snoc] at hpos
     obtain⟨i1,i2⟩:=inside s hx
     obtain⟨u0,u1,_⟩:=part_in hx
     obtain⟨e1,e1h⟩:=s.eval i2
     have D:=CPs.decide' s.fine s.fl (by omega) (by omega) s.le s.t1 s.t2
     rw[posR_of s.zp p0 s.le hpos,s.ep,s.er] at D
     have sg:=QF.Sign (evalL (vals p) (r.lo.val+partQ x.part*(r.hi.val-r.lo.val))) (by omega)
     have hle:=s.le
     have w1:=Rat.mul_nonneg u0 (show 0≤r.hi.val-r.lo.val by grind)
     have w2:=Rat.mul_le_mul_of_nonneg_right u1 (show 0≤r.hi.val-r.lo.val by grind)
     obtain⟨c,c1,c2⟩:=hpos
     have c3:=c2 (r.lo.val+partQ x.part*(r.hi.val-r.lo.val)) (by grind) (by grind)
     have:=linkworklaw31_PositiveRight.e4 p r x _ _ _ _ _ _ _ _ hv rfl h3 rfl awake rfl V rfl i1 e1 (positive_Decide.e0 p r _ none s.ck D) rfl sg
     rwa[decide_eq_true (cmpR_gt.2 (by grind))] at this
   ·rw[errOf_ne hc] at V
    exact linkworklaw31_PositiveRight.e5 p r x _ _ _ _ _ hv rfl h3 rfl awake rfl V
  ·have:Nat.ble x.cert.cuts.length 255=false:=by
    cases h:Nat.ble x.cert.cuts.length 255 with
    |false=>rfl
    |true=>exact absurd (Nat.le_of_ble_eq_true h) hl
   rw[this,cond_false,cond_false] at V
   exact linkworklaw31_PositiveRight.e5 p r x _ _ _ _ _ hv rfl h3 rfl awake rfl V
theorem PositiveRightI(p:List ARat)(r:ARange)(x:AClaim){A B:Prop}(_:A)(_:B){C:Prop}(hx:C∧x.part≤255):Contract prg 8 [polyPV p,r.pv,x.pv] (vB true):=PositiveRight p r x hx.2
end C31
end Go.Proofs.YtbgkjomonebfcaaGreat.Sym
namespace Go.Proofs.YtbgkjomonebfcaaGreat.Sym
open Go Go.RowKit Go.ChangeShapes Go.WideShapes Go.ChangeAt
set_option linter.unusedVariables false
namespace RowPositiveRight
theorem own:ownKnob Tryz.prog.godebug=none:=by kernel_rfl
theorem laid:laidOutB prg=true:=by kernel_rfl
theorem okArg{P:Program}{W:World}{base:Nat}{ps:Array TypeId}{args:Array Value}(hval:∀(j:Nat) t v,ps[j]? = some t→args[j]? = some v→Value.okWide P W .any base t v)(j:Nat){t:TypeId}{v:Value}(h1:ps[j]? = some t)(h2:args[j]? = some v):Value.okWide P W .any base t v:=hval j t v h1 h2
set_option maxRecDepth 100000 in
theorem contract(H:Type)(enc:TypeId×Value→H)(W:World)(base:Nat)(args:Array Value)(ds gs:List (DataW H))(before:List MemPlace)
  (hval:∀(j:Nat) t v,Tryz.f8.params[j]? = some t→args[j]? = some v→Value.okWide Tryz.prog W .any base t v)
  (hW:DataW.Whole enc Tryz.prog Tryz.f8.params.toList Rows.positiveRightSpec.vars false W args.toList ds gs before)
  (hz:(DataW.weightsEach Tryz.prog (Tryz.f8.params.toList++Rows.positiveRightSpec.plain.varTypes Tryz.prog) (ds++gs)).all (·≤reachBytes)=true) :
  Calls Tryz.prog 8 args W fun e W'=>∃v,e = .returned v∧Rows.positiveRightSpec.post enc Tryz.prog Tryz.f8 false true false false W args v W':=by
 have hW':=hW
 obtain⟨p,q,hA,hV,rfl,hfz,hnd⟩:=hW
 have hp:Tryz.f8.params = #[23,28,69]:=by kernel_rfl
 rw[hp] at hA hval hz
 obtain⟨v0,vs0,d0,ds0,p0,q0,hargs,rfl,rfl,h0,r0⟩:=trodAll_cons hA
 obtain⟨v1,vs1,d1,ds1,p1,q1,rfl,rfl,rfl,h1,r1⟩:=trodAll_cons r0
 obtain⟨v2,vs2,d2,ds2,p2,q2,rfl,rfl,rfl,h2,r2⟩:=trodAll_cons r1
 obtain⟨rfl,rfl,rfl⟩:=trodAll_nil r2
 obtain rfl:args = #[v0,v1,v2]:=by cases args;simp_all
 obtain⟨rfl,rfl⟩:=trodVars_none hV
 obtain⟨n0,hn0⟩:=h0
 have hw0:∀k∈d0.weights prg 23,k≤reachBytes:=by
  intro k hk
  have:=List.all_eq_true.1 hz k (DataW.weights_mem_each (j:=0) rfl rfl k hk)
  simpa using this
 obtain⟨x0,hx0,b0⟩:=opens_poly enc W 0 (fun _=>true) true n0 _ _ hn0 hw0
 obtain⟨ra0,rl0,rc0,rfl⟩:=okWide_slice (show Tryz.prog.underlying 23=some (.slice 26) by kernel_rfl) (okArg hval 0 (t:=23) (v:=v0) (by simp) (by simp))
 have hrd0:Rd (Old W) W (polyPV x0) (.slice ra0 rl0 rc0):=(hx0.2 0 _ _ rfl rfl).2
 obtain⟨n1,hn1⟩:=h1
 have hw1:∀k∈d1.weights prg 28,k≤reachBytes:=by
  intro k hk
  have:=List.all_eq_true.1 hz k (DataW.weights_mem_each (j:=1) rfl rfl k hk)
  simpa using this
 obtain⟨x1,hx1,b1⟩:=opens_ARange enc W 0 (fun _=>true) true n1 _ _ hn1 hw1
 obtain⟨fs1,hu1,_⟩:=flds_spec (show fldsOf (prg.underlying 28)=some [(26,0),(26,3)] by kernel_rfl)
 have hv1:Value.okWide Tryz.prog W .any base 28 v1:=okArg hval 1 (by simp) (by simp)
 have hrd1:Rd (Old W) W x1.pv v1:=rd_struct (P:=Tryz.prog) (cs:=x1.cells) hu1 hv1 hx1
 obtain⟨n2,hn2⟩:=h2
 have hw2:∀k∈d2.weights prg 69,k≤reachBytes:=by
  intro k hk
  have:=List.all_eq_true.1 hz k (DataW.weights_mem_each (j:=2) rfl rfl k hk)
  simpa using this
 obtain⟨x2,hx2,b2⟩:=opens_AClaim enc W 0 (fun _=>true) true n2 _ _ hn2 hw2
 obtain⟨fs2,hu2,_⟩:=flds_spec (show fldsOf (prg.underlying 69)=some [(58,0),(5,1)] by kernel_rfl)
 have hv2:Value.okWide Tryz.prog W .any base 69 v2:=okArg hval 2 (by simp) (by simp)
 have hrd2:Rd (Old W) W x2.pv v2:=rd_struct (P:=Tryz.prog) (cs:=x2.cells) hu2 hv2 hx2
 have hc:=C31.PositiveRightI x0 x1 x2 b0 b1 b2
 refine(hc.2 (Old W) W (fun _=>none) #[.slice ra0 rl0 rc0,v1,v2] (fun b hb=>hb) ⟨(fun r sc h=>by cases h),(fun r r' b h=>by obtain⟨_,h⟩:=h)⟩ rfl ?_).mono ?_
 ·intro j e v he hv
  cases j with
  |zero=>simp at he hv;subst he hv;exact hrd0
  |succ j =>
   cases j with
   |zero=>simp at he hv;subst he hv;exact hrd1
   |succ j =>
    cases j with
    |zero=>simp at he hv;subst he hv;exact hrd2
    |succ j=>simp at he
 ·intro e W' ⟨v,β',he,_,hk,_,hv,_⟩
  subst he
  have hv:Rd _ W' (vB true) v:=hv
  cases hv
  have hk':Keeps (fun _=>False) W W':=⟨hk.os,hk.tape,hk.output,hk.size,fun k h1 _=>hk.block k h1 (fun ⟨y,hy,_⟩=>by obtain⟨_,hy⟩:=hy),hk.shape⟩
  refine⟨_,rfl,post_true (tb:=4) hW' hk' rfl (by kernel_rfl) (by kernel_rfl) rfl rfl rfl laid ?_⟩
  rw[hp]
  intro t ht
  have:t=23∨t=28∨t=69:=by simpa using ht
  rcases this with rfl|rfl|rfl
  all_goals exact⟨by kernel_rfl,of_decide_eq_true (by kernel_rfl)⟩
set_option maxRecDepth 100000 in
theorem lifted(os:Os)(started:os.Started)(H:Type)(enc:TypeId×Value→H) :
  ReturnsInHanded {} Tryz.checked os 8 .any (Rows.positiveRightSpec.pre6 enc Tryz.prog Tryz.f8 Rows.positiveRightRow.domain false) (Rows.positiveRightSpec.post enc Tryz.prog Tryz.f8 false true false false):=by
 refine returnsInHanded_of_change_sized (C:=Tryz.checked) own started (by kernel_rfl) Tryz.func8
  (ChangeSpec.witness6 (enc:=enc) (C:=Tryz.checked) false ⟨#[],#[.slice none 0 0,.agg #[.bool false,.slice none 0 0,.slice none 0 0,.bool false,.slice none 0 0,.slice none 0 0],.agg #[.slice none 0 0,.int .u8 0]],[]⟩ 8 (by kernel_rfl) (by kernel_rfl) (by kernel_rfl) (by kernel_rfl)) ?_
 intro W base args ds gs before hval hW _ hz _
 exact contract H enc W base args ds gs before hval hW hz
theorem j1:(Rows.positiveRightRow.inPlace==Tryz.prog.inPlace 8)=true:=by kernel_rfl
theorem j2:(Rows.positiveRightRow.unfollowed==Tryz.prog.unfollowed 8)=true:=by kernel_rfl
theorem j3:(Rows.positiveRightRow.recurses==Tryz.prog.recurses 8)=true:=by kernel_rfl
theorem j4:(Rows.positiveRightRow.named==Tryz.prog.varsNamed 8)=true:=by kernel_rfl
theorem closed:joinedFacts Tryz.prog 8 Tryz.f8 Rows.positiveRightSpec Rows.positiveRightRow=true:=by
 unfold joinedFacts
 rw[j1,j2,j3,j4]
 kernel_rfl
theorem proved:Rows.PositiveRightSaid :=
 OpenClaim.holds_of_wide 8 Tryz.f8 rfl rfl rfl rfl rfl rfl rfl ⟨rfl,rfl,rfl,rfl,rfl⟩ rfl rfl rfl rfl rfl (by kernel_rfl) Tryz.func8 closed
  (of_decide_eq_true (by kernel_rfl)) (by unfold Func.isWrapper;first|(rw [if_pos (by decide +kernel)];kernel_rfl)|(rw [if_neg (by decide +kernel)];exact⟨rfl,rfl⟩))
  (fun os started H enc _=>lifted os started H enc)
end RowPositiveRight
end Go.Proofs.YtbgkjomonebfcaaGreat.Sym
