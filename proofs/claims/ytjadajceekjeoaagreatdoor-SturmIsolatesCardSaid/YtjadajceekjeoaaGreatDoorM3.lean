/- The statement SturmIsolates is proved, its tables tied: Isolate and Isolating return what is specified; no condition. -/
import Derived.Test.YtjadajceekjeoaaGreatDoorM0
import Derived.Test.YtjadajceekjeoaaGreatDoorM2
import Derived.Test.YtjadajceekjeoaaGreatDoorChecked
import Derived.Shelf.Strings.BuilderX
import Derived.Shelf.Lays
import Derived.KernelRfl
import Derived.Test.YtjadajceekjeoaaGreatDoorYObs
import Derived.Shelf.Strconv.Itoa3
import Derived.Shelf.Strings.OnBuilder
import Derived.Test.YtjadajceekjeoaaGreatDoorM1
import Derived.Test.YtjadajceekjeoaaGreatDoorRows
import Derived.Test.YtjadajceekjeoaaGreatDoorCards
import Derived.Test.YtjadajceekjeoaaGreatDoorTie
import Derived.Deep.DeepHandedRow
import Derived.SevenTiedAt
import Derived.LaidLaws
import Derived.JoinedCond
namespace Go.Proofs.YtjadajceekjeoaaGreatDoor.Sym.Path
open Go
set_option maxRecDepth 20000
set_option linter.unusedVariables false
namespace sturm_Count
theorem e3(p:List ARat)(lo hi:ARat)(val val1:Bool)(cmp:Int)(cha:List (List ARat))(cha2 cha3:Int)(h1:Contract prg 46 [(polyPV p)] .nilI)(h2:Contract prg 47 [lo.pv] (vB val))(h3:val=true)(h4:Contract prg 47 [hi.pv] (vB val1))(h5:val1=true)(h6:Contract prg 37 [lo.pv,hi.pv] (vI cmp))(h7:cmp≤0)(h8:Contract prg 48 [(polyPV p)] (.tup [(lpv (lcell ARat.cells) cha),.nilI]))(h9:Contract prg 49 [(lpv (lcell ARat.cells) cha),lo.pv] (vI cha2))(h10:Contract prg 49 [(lpv (lcell ARat.cells) cha),hi.pv] (vI cha3))(h11:InI64 (cha2-cha3)):Contract prg 13 [(polyPV p),lo.pv,hi.pv] (.tup [(vI (cha2-cha3)),.nilI]) :=
 Contract.ofL Tryz.func13 (by kernel_rfl) (L.done mixed tabOk (n:=129) (ns:=[1,1,1,1,1,1,1,1,1,1,1,1,1,1,1,1,1,1]) (tr:=[.reg [],.reg [.none,(.pv .nilI)],.reg [],.auto,.reg [.none,(.pv (vB val)),.none,.none,.none,(.pv (vB val1)),.none,(.dec false),.none,.none,.none,(.pv (vI cmp)),.none,(.dec false)],.dec false,.reg [.none,(.pv (.tup [(lpv (lcell ARat.cells) cha),.nilI]))],.reg [],.auto,dr 7 2 [.none,.none,(.pv (vI cha2)),.none,.none,(.pv (vI cha3)),(iI (cha2-cha3))]]) (cj h1 (cj h2 (cj (bnot_f h3) (cj (bnot_f h3) (cj h4 (cj (bnot_f h3) (cj (bnot_f h3) (cj (bnot_f h5) (cj (bnot_f h5) (cj (bnot_f h5) (cj h6 (cj (bnot_f h5) (cj (bnot_f h5) (cj (dlt_f h7) (cj h8 (cj h9 (cj h10 (cj (bs_sub h11) True.intro)))))))))))))))))) (by kernel_rfl))
end sturm_Count
namespace sturm_All
theorem e0(p:List ARat)(bou neg:ARat)(cou:Int)(cou1:Option Int)(h1:Contract prg 15 [(polyPV p)] (.tup [bou.pv,.nilI]))(h2:Contract prg 30 [bou.pv] neg.pv)(h3:Contract prg 13 [(polyPV p),neg.pv,bou.pv] (.tup [(vI cou),(errPV cou1)])):Contract prg 14 [(polyPV p)] (.tup [(vI cou),(errPV cou1)]) :=
 Contract.ofL Tryz.func14 (by kernel_rfl) (L.done mixed tabOk (n:=93) (ns:=[1,1,1]) (tr:=[.reg [],.reg [.none,(.pv (.tup [bou.pv,.nilI]))],.reg [],.auto,dr 7 2 [.none,.none,(.pv neg.pv),.none,(.pv (.tup [(vI cou),(errPV cou1)]))]]) (cj h1 (cj h2 (cj h3 True.intro))) (by kernel_rfl))
end sturm_All
namespace sturm_Bound
@[reducible] noncomputable def fn:Func:=Tryz.f15
noncomputable def atK1:List Itm:=focus [0,2,0,0,2,0,2,1,2,0,2,0,0,2,0,0] [.code (bodyOf fn)]
def inv1(p:List ARat)(t_19:Nat)(site_5:ARat):St:=⟨[(0,(.pv (polyPV p))),(2,(.ptr 2 0)),(5,(.ptr 5 0)),(17,(.pv (polyPV p))),(18,(eI (p.length:Int))),(19,(eI (t_19:Int)))],[(2,(.lit [(eB false),(.pv (.list [])),(.pv (.list []))])),(5,(.lit [(eB site_5.neg),(.pv (wordsPV site_5.num)),(.pv (wordsPV site_5.den))]))]⟩
@[reducible] noncomputable def Loop1(p:List ARat)(t_19:Nat)(site_5:ARat)(r:PV):Prop:=L prg fn atK1 (inv1 p t_19 site_5) r
noncomputable def atK2:List Itm:=focus [0,2,0,0,2,0,2,1,2,0,2,0,0,2,0,0,0,0,2,0,0,2,0,0,0,2,0,2,0,0,2,1,2,0,0] [.code (bodyOf fn)]
def inv2(p:List ARat)(t_19:Nat)(site_5 div:ARat):St:=⟨[(0,(.pv (polyPV p))),(2,(.ptr 2 0)),(5,(.ptr 5 0)),(8,(.ptr 8 0)),(17,(.pv (polyPV p))),(18,(eI (p.length:Int))),(19,(eI (t_19:Int)))],[(2,(.lit [(eB false),(.pv (.list [])),(.pv (.list []))])),(5,(.lit [(eB site_5.neg),(.pv (wordsPV site_5.num)),(.pv (wordsPV site_5.den))])),(8,(.lit [(eB div.neg),(.pv (wordsPV div.num)),(.pv (wordsPV div.den))]))]⟩
@[reducible] noncomputable def Loop2(p:List ARat)(t_19:Nat)(site_5 div:ARat)(r:PV):Prop:=L prg fn atK2 (inv2 p t_19 site_5 div) r
theorem e0(p:List ARat)(of:ARat){r:PV}(h1:Contract prg 46 [(polyPV p)] .nilI)(h2:Contract prg 43 [(vI 1)] of.pv)(hL:Loop1 p 0 of r):Contract prg 15 [(polyPV p)] r :=
 Contract.ofL Tryz.func15 (by kernel_rfl) (L.go mixed tabOk (n:=108) (ns:=[1,1,1]) (tr:=[.reg [],.reg [.none,(.pv .nilI)],.reg [],.auto,.reg [(.pv of.pv)],.reg [.none,(iI (p.length:Int))],.keep [0,2,5,17,18,19],.ord [2,5]]) (cj h1 (cj h2 (cj (o_len ARat.cells p) True.intro))) (by kernel_rfl) hL)
theorem e1(p:List ARat)(che:Int)(h1:Contract prg 46 [(polyPV p)] (.iface 86 (vI che))):Contract prg 15 [(polyPV p)] (.tup [(⟨false,[],[]⟩:ARat).pv,(.iface 86 (vI che))]) :=
 Contract.ofL Tryz.func15 (by kernel_rfl) (L.done mixed tabOk (n:=90) (ns:=[1]) (tr:=[.reg [],.reg [.none,(.pv (.iface 86 (vI che)))],.reg [],.auto,.reg []]) (cj h1 True.intro) (by kernel_rfl))
theorem l10(p:List ARat)(t_19:Nat)(site_5 v:ARat)(k:Nat)(v1 div:ARat){r:PV}(h1:t_19<p.length)(h2:p[t_19]? = some v)(h3:InI64 ((p.length:Int)-1))(h4:((p.length:Int)-1)=(k:Int))(h5:p[k]? = some v1)(h6:Contract prg 50 [v.pv,v1.pv] (.tup [div.pv,.nilI]))(hL:Loop2 p t_19 site_5 div r):Loop1 p t_19 site_5 r :=
 L.go mixed tabOk (n:=165) (ns:=[1,3,1,1,3,1]) (tr:=[.auto,.reg [],.dec true,.reg [(.row t_19 (ARat.cells v))],dr 13 1 [.none,.none,.none,(iI (p.length:Int)),(iI ((p.length:Int)-1)),(.row k (ARat.cells v1)),.none,(.pv (.tup [div.pv,.nilI]))],.reg [],.auto,.keep [0,2,5,8,17,18,19],.drop [7],.ord [2,5,8]]) (cj (dltN_t h1) (cj (o_at ARat.cells (Eq.refl (((t_19:Nat):Int):Int)) h2) (cj (o_len ARat.cells p) (cj (bs_sub h3) (cj (o_at ARat.cells h4 h5) (cj h6 True.intro)))))) (by kernel_rfl) hL
theorem l12(p:List ARat)(t_19:Nat)(site_5:ARat)(h1:p.length≤t_19):Loop1 p t_19 site_5 (.tup [site_5.pv,.nilI]) :=
 L.done mixed tabOk (n:=141) (ns:=[1]) (tr:=[.auto,.reg [],.dec false,.reg []]) (cj (dltN_f h1) True.intro) (by kernel_rfl)
theorem l20(p:List ARat)(t_19:Nat)(site_5 div of abs add:ARat)(cmp:Int)(add1:ARat){r:PV}(h1:Contract prg 43 [(vI 1)] of.pv)(h2:Contract prg 51 [div.pv] abs.pv)(h3:Contract prg 29 [of.pv,abs.pv] add.pv)(h4:Contract prg 37 [site_5.pv,add.pv] (vI cmp))(h5:cmp<0)(h6:Contract prg 29 [site_5.pv,site_5.pv] add1.pv)(hL:Loop2 p t_19 add1 div r):Loop2 p t_19 site_5 div r :=
 L.go mixed tabOk (n:=192) (ns:=[1,1,1,1,1,1]) (tr:=[.auto,dr 7 0 [.none,(.pv of.pv),.none,(.pv abs.pv),(.pv add.pv),(.pv (vI cmp))],.dec true,.reg [.none,.none,(.pv add1.pv)],.keep [0,2,5,8,17,18,19]]) (cj h1 (cj h2 (cj h3 (cj h4 (cj (dlt_t h5) (cj h6 True.intro)))))) (by kernel_rfl) hL
theorem l21(p:List ARat)(t_19:Nat)(site_5 div of abs add:ARat)(cmp:Int){r:PV}(h1:Contract prg 43 [(vI 1)] of.pv)(h2:Contract prg 51 [div.pv] abs.pv)(h3:Contract prg 29 [of.pv,abs.pv] add.pv)(h4:Contract prg 37 [site_5.pv,add.pv] (vI cmp))(h5:0≤cmp)(h6:(t_19+1)<9223372036854775808)(hL:Loop1 p (t_19+1) site_5 r):Loop2 p t_19 site_5 div r :=
 L.go mixed tabOk (n:=198) (ns:=[1,1,1,1,1,1]) (tr:=[.auto,dr 7 0 [.none,(.pv of.pv),.none,(.pv abs.pv),(.pv add.pv),(.pv (vI cmp))],.dec false,.reg [(iI (((t_19+1):Nat):Int))],.keep [0,2,5,17,18,19],.drop [8]]) (cj h1 (cj h2 (cj h3 (cj h4 (cj (dlt_f h5) (cj (bs_addN h6) True.intro)))))) (by kernel_rfl) hL
end sturm_Bound
namespace linkworkref06_Bound
@[reducible] noncomputable def fn:Func:=Tryz.f18
noncomputable def atK1:List Itm:=focus [0,2,0,0,2,0,2,1,2,0,2,0,0,2,0,0] [.code (bodyOf fn)]
def inv1(p:List ARat)(t_19:Nat)(site_5:ARat):St:=⟨[(0,(.pv (polyPV p))),(2,(.ptr 2 0)),(5,(.ptr 5 0)),(17,(.pv (polyPV p))),(18,(eI (p.length:Int))),(19,(eI (t_19:Int)))],[(2,(.lit [(eB false),(.pv (.list [])),(.pv (.list []))])),(5,(.lit [(eB site_5.neg),(.pv (wordsPV site_5.num)),(.pv (wordsPV site_5.den))]))]⟩
@[reducible] noncomputable def Loop1(p:List ARat)(t_19:Nat)(site_5:ARat)(r:PV):Prop:=L prg fn atK1 (inv1 p t_19 site_5) r
noncomputable def atK2:List Itm:=focus [0,2,0,0,2,0,2,1,2,0,2,0,0,2,0,0,0,0,2,0,0,2,0,0,0,2,0,2,0,0] [.code (bodyOf fn)]
def inv2(p:List ARat)(t_19:Nat)(site_5 div:ARat):St:=⟨[(0,(.pv (polyPV p))),(2,(.ptr 2 0)),(5,(.ptr 5 0)),(8,(.ptr 8 0)),(17,(.pv (polyPV p))),(18,(eI (p.length:Int))),(19,(eI (t_19:Int)))],[(2,(.lit [(eB false),(.pv (.list [])),(.pv (.list []))])),(5,(.lit [(eB site_5.neg),(.pv (wordsPV site_5.num)),(.pv (wordsPV site_5.den))])),(8,(.lit [(eB div.neg),(.pv (wordsPV div.num)),(.pv (wordsPV div.den))]))]⟩
@[reducible] noncomputable def Loop2(p:List ARat)(t_19:Nat)(site_5 div:ARat)(r:PV):Prop:=L prg fn atK2 (inv2 p t_19 site_5 div) r
theorem e0(p:List ARat)(err:Int)(h1:Contract prg 52 [(polyPV p)] (vI err))(h2:err≠0):Contract prg 18 [(polyPV p)] (.tup [(⟨false,[],[]⟩:ARat).pv,(vI err)]) :=
 Contract.ofL Tryz.func18 (by kernel_rfl) (L.done mixed tabOk (n:=90) (ns:=[1,1]) (tr:=[.reg [],.reg [.none,(.pv (vI err))],.reg [],.dec true,.reg []]) (cj h1 (cj (dne_t h2) True.intro)) (by kernel_rfl))
theorem e1(p:List ARat)(err:Int)(of:ARat){r:PV}(h1:Contract prg 52 [(polyPV p)] (vI err))(h2:err=0)(h3:Contract prg 56 [(vI 1)] of.pv)(hL:Loop1 p 0 of r):Contract prg 18 [(polyPV p)] r :=
 Contract.ofL Tryz.func18 (by kernel_rfl) (L.go mixed tabOk (n:=108) (ns:=[1,1,1,1]) (tr:=[.reg [],.reg [.none,(.pv (vI err))],.reg [],.dec false,.reg [(.pv of.pv)],.reg [.none,(iI (p.length:Int))],.keep [0,2,5,17,18,19],.ord [2,5]]) (cj h1 (cj (dne_f h2) (cj h3 (cj (o_len ARat.cells p) True.intro)))) (by kernel_rfl) hL)
theorem l10(p:List ARat)(t_19:Nat)(site_5 v:ARat)(k:Nat)(v1 div:ARat)(div1:Int){r:PV}(h1:t_19<p.length)(h2:p[t_19]? = some v)(h3:InI64 ((p.length:Int)-1))(h4:((p.length:Int)-1)=(k:Int))(h5:p[k]? = some v1)(h6:Contract prg 57 [v.pv,v1.pv] (.tup [div.pv,(vI div1)]))(hL:Loop2 p t_19 site_5 div r):Loop1 p t_19 site_5 r :=
 L.go mixed tabOk (n:=150) (ns:=[1,3,1,1,3,1]) (tr:=[.auto,.reg [],.dec true,.reg [(.row t_19 (ARat.cells v))],dr 13 1 [.none,.none,.none,(iI (p.length:Int)),(iI ((p.length:Int)-1)),(.row k (ARat.cells v1)),.none,(.pv (.tup [div.pv,(vI div1)]))],.keep [0,2,5,8,17,18,19],.drop [7],.ord [2,5,8]]) (cj (dltN_t h1) (cj (o_at ARat.cells (Eq.refl (((t_19:Nat):Int):Int)) h2) (cj (o_len ARat.cells p) (cj (bs_sub h3) (cj (o_at ARat.cells h4 h5) (cj h6 True.intro)))))) (by kernel_rfl) hL
theorem l11(p:List ARat)(t_19:Nat)(site_5:ARat)(h1:p.length≤t_19):Loop1 p t_19 site_5 (.tup [site_5.pv,(vI 0)]) :=
 L.done mixed tabOk (n:=141) (ns:=[1]) (tr:=[.auto,.reg [],.dec false,.reg []]) (cj (dltN_f h1) True.intro) (by kernel_rfl)
theorem l20(p:List ARat)(t_19:Nat)(site_5 div abs of add:ARat)(cmp:Int)(add1:ARat){r:PV}(h1:Contract prg 59 [div.pv] abs.pv)(h2:Contract prg 56 [(vI 1)] of.pv)(h3:Contract prg 58 [abs.pv,of.pv] add.pv)(h4:Contract prg 53 [site_5.pv,add.pv] (vI cmp))(h5:cmp<0)(h6:Contract prg 58 [site_5.pv,site_5.pv] add1.pv)(hL:Loop2 p t_19 add1 div r):Loop2 p t_19 site_5 div r :=
 L.go mixed tabOk (n:=177) (ns:=[1,1,1,1,1,1]) (tr:=[.auto,dr 7 0 [.none,.none,(.pv abs.pv),(.pv of.pv),(.pv add.pv),(.pv (vI cmp))],.dec true,.reg [.none,.none,(.pv add1.pv)],.keep [0,2,5,8,17,18,19]]) (cj h1 (cj h2 (cj h3 (cj h4 (cj (dlt_t h5) (cj h6 True.intro)))))) (by kernel_rfl) hL
theorem l21(p:List ARat)(t_19:Nat)(site_5 div abs of add:ARat)(cmp:Int){r:PV}(h1:Contract prg 59 [div.pv] abs.pv)(h2:Contract prg 56 [(vI 1)] of.pv)(h3:Contract prg 58 [abs.pv,of.pv] add.pv)(h4:Contract prg 53 [site_5.pv,add.pv] (vI cmp))(h5:0≤cmp)(h6:(t_19+1)<9223372036854775808)(hL:Loop1 p (t_19+1) site_5 r):Loop2 p t_19 site_5 div r :=
 L.go mixed tabOk (n:=183) (ns:=[1,1,1,1,1,1]) (tr:=[.auto,dr 7 0 [.none,.none,(.pv abs.pv),(.pv of.pv),(.pv add.pv),(.pv (vI cmp))],.dec false,.reg [(iI (((t_19+1):Nat):Int))],.keep [0,2,5,17,18,19],.drop [8]]) (cj h1 (cj h2 (cj h3 (cj h4 (cj (dlt_f h5) (cj (bs_addN h6) True.intro)))))) (by kernel_rfl) hL
end linkworkref06_Bound
namespace sturm_Refine
@[reducible] noncomputable def fn:Func:=Tryz.f21
noncomputable def atK1:List Itm:=focus [0,2,0,0,2,0,2,1,2,0,0,2,1,2,0,2,0,0,2,1,2,0,0,2,1,2,0,2,0,0,2,1,2,0,2,0,2,0,0,2,0,0] [.code (bodyOf fn)]
def inv1(fre:List ARat)(bits:Int)(t_60:Nat)(rV:ARange)(site_12 mak:ARat):St:=⟨[(4,(.ptr 4 0)),(6,(.ptr 6 0)),(11,(.pv (polyPV fre))),(12,(.ptr 12 0)),(13,(.ptr 13 0)),(59,(eI bits)),(60,(eI (t_60:Int)))],[(4,(.lit [(eB rV.lo.neg),(.pv (wordsPV rV.lo.num)),(.pv (wordsPV rV.lo.den)),(eB rV.hi.neg),(.pv (wordsPV rV.hi.num)),(.pv (wordsPV rV.hi.den))])),(6,(.lit [(eB false),(.pv (.list [])),(.pv (.list [])),(eB false),(.pv (.list [])),(.pv (.list []))])),(12,(.lit [(eB site_12.neg),(.pv (wordsPV site_12.num)),(.pv (wordsPV site_12.den))])),(13,(.lit [(eB mak.neg),(.pv (wordsPV mak.num)),(.pv (wordsPV mak.den))]))]⟩
@[reducible] noncomputable def Loop1(fre:List ARat)(bits:Int)(t_60:Nat)(rV:ARange)(site_12 mak:ARat)(r:PV):Prop:=L prg fn atK1 (inv1 fre bits t_60 rV site_12 mak) r
noncomputable def atK2:List Itm:=focus [0,2,0,0,2,0,2,1,2,0,0,2,1,2,0,2,0,0,2,1,2,0,0,2,1,2,0,2,0,0,2,1,2,0,2,0,2,0,0,2,0,0,0,0,2,0,1,2,2,2,2,0,2,0,2,0,0,0] [.code (bodyOf fn)]
def inv2(fre:List ARat)(val:Int)(site_4:ARange)(site_12:ARat):St:=⟨[(4,(.ptr 4 0)),(6,(.ptr 6 0)),(11,(.pv (polyPV fre))),(12,(.ptr 12 0)),(15,(eI val))],[(4,(.lit [(eB site_4.lo.neg),(.pv (wordsPV site_4.lo.num)),(.pv (wordsPV site_4.lo.den)),(eB site_4.hi.neg),(.pv (wordsPV site_4.hi.num)),(.pv (wordsPV site_4.hi.den))])),(6,(.lit [(eB false),(.pv (.list [])),(.pv (.list [])),(eB false),(.pv (.list [])),(.pv (.list []))])),(12,(.lit [(eB site_12.neg),(.pv (wordsPV site_12.num)),(.pv (wordsPV site_12.den))]))]⟩
@[reducible] noncomputable def Loop2(fre:List ARat)(val:Int)(site_4:ARange)(site_12:ARat)(r:PV):Prop:=L prg fn atK2 (inv2 fre val site_4 site_12) r
theorem e3(p:List ARat)(rV:ARange)(bits:Int)(iso:Bool)(fre:List ARat)(of mak:ARat)(mak1:Option Int){r:PV}(h1:Contract prg 46 [(polyPV p)] .nilI)(h2:0≤bits)(h3:bits≤256)(h4:Contract prg 61 [(polyPV p),rV.pv] (.tup [(vB iso),.nilI]))(h5:iso=true)(h6:Contract prg 31 [(polyPV p)] (.tup [(polyPV fre),.nilI]))(h7:Contract prg 43 [(vI 1)] of.pv)(h8:Contract prg 36 [(vI 1),(vI 2)] (.tup [mak.pv,(errPV mak1)]))(hL:Loop1 fre bits 0 rV of mak r):Contract prg 21 [(polyPV p),rV.pv,(vI bits)] r :=
 Contract.ofL Tryz.func21 (by kernel_rfl) (L.go mixed tabOk (n:=186) (ns:=[1,1,1,1,1,1,1,1,1,1]) (tr:=[.reg [],.reg [.none,(.pv .nilI)],.reg [],.auto,.reg [.none,.none,.none,.none,.none,(.dec false)],.dec false,.reg [.none,.none,(.pv (.tup [(vB iso),.nilI]))],.reg [],.auto,.reg [],.dec false,.reg [.none,(.pv (.tup [(polyPV fre),.nilI]))],.reg [],.auto,.reg [(.pv of.pv)],.reg [(.pv (.tup [mak.pv,(errPV mak1)]))],.reg [],.keep [4,6,11,12,13,59,60],.ord [4,6,12,13]]) (cj h1 (cj (dlt_f h2) (cj (dlt_f h2) (cj (dlt_f h2) (cj (dlt_f h3) (cj h4 (cj (bnot_f h5) (cj h6 (cj h7 (cj h8 True.intro)))))))))) (by kernel_rfl) hL)
theorem l10(fre:List ARat)(bits:Int)(t_60:Nat)(rV:ARange)(site_12 mak mul:ARat){r:PV}(h1:(t_60:Int)<bits)(h2:Contract prg 62 [site_12.pv,mak.pv] mul.pv)(h3:(t_60+1)<9223372036854775808)(hL:Loop1 fre bits (t_60+1) rV mul mak r):Loop1 fre bits t_60 rV site_12 mak r :=
 L.go mixed tabOk (n:=219) (ns:=[1,1,1]) (tr:=[.auto,.reg [],.dec true,.reg [.none,.none,(.pv mul.pv)],.reg [(iI (((t_60+1):Nat):Int))],.keep [4,6,11,12,13,59,60]]) (cj (dlt_t h1) (cj h2 (cj (bs_addN h3) True.intro))) (by kernel_rfl) hL
theorem l11(fre:List ARat)(bits:Int)(t_60:Nat)(rV:ARange)(site_12 mak:ARat)(hul:ARange)(val:Int){r:PV}(h1:bits≤(t_60:Int))(h2:Contract prg 63 [rV.pv,rV.pv] hul.pv)(h3:Contract prg 64 [(polyPV fre),hul.lo.pv] (vI val))(hL:Loop2 fre val hul site_12 r):Loop1 fre bits t_60 rV site_12 mak r :=
 L.go mixed tabOk (n:=234) (ns:=[1,1,1]) (tr:=[.auto,.reg [],.dec false,.reg [.none,.none,(.pv hul.pv)],.reg [.none,.none,.none,(.pv (vI val))],.keep [4,6,11,12,15],.drop [13]]) (cj (dlt_f h1) (cj h2 (cj h3 True.intro))) (by kernel_rfl) hL
theorem l20(fre:List ARat)(val:Int)(site_4:ARange)(site_12 wid:ARat)(cmp:Int)(mid:ARat)(val1:Int)(poi:ARange)(h1:Contract prg 39 [site_4.pv] wid.pv)(h2:Contract prg 37 [wid.pv,site_12.pv] (vI cmp))(h3:0<cmp)(h4:Contract prg 65 [site_4.pv] mid.pv)(h5:Contract prg 64 [(polyPV fre),mid.pv] (vI val1))(h6:val1=0)(h7:Contract prg 66 [mid.pv] poi.pv):Loop2 fre val site_4 site_12 (.tup [poi.pv,.nilI]) :=
 L.done mixed tabOk (n:=285) (ns:=[1,1,1,1,1,1,1]) (tr:=[.auto,dr 5 0 [.none,(.pv wid.pv),.none,(.pv (vI cmp))],.dec true,.reg [.none,(.pv mid.pv)],.reg [.none,.none,(.pv (vI val1))],.reg [],.dec true,.reg [.none,(.pv poi.pv)]]) (cj h1 (cj h2 (cj (dlt_t h3) (cj h4 (cj h5 (cj (deq_t h6) (cj h7 True.intro))))))) (by kernel_rfl)
theorem l21(fre:List ARat)(val:Int)(site_4:ARange)(site_12 wid:ARat)(cmp:Int)(mid:ARat)(val1:Int){r:PV}(h1:Contract prg 39 [site_4.pv] wid.pv)(h2:Contract prg 37 [wid.pv,site_12.pv] (vI cmp))(h3:0<cmp)(h4:Contract prg 65 [site_4.pv] mid.pv)(h5:Contract prg 64 [(polyPV fre),mid.pv] (vI val1))(h6:val1≠0)(h7:val1=val)(hL:Loop2 fre val (⟨mid,site_4.hi⟩:ARange) site_12 r):Loop2 fre val site_4 site_12 r :=
 L.go mixed tabOk (n:=297) (ns:=[1,1,1,1,1,1,1]) (tr:=[.auto,dr 5 0 [.none,(.pv wid.pv),.none,(.pv (vI cmp))],.dec true,.reg [.none,(.pv mid.pv)],.reg [.none,.none,(.pv (vI val1))],.reg [],.dec false,.reg [],.dec true,.reg [],.keep [4,6,11,12,15],.drop [16]]) (cj h1 (cj h2 (cj (dlt_t h3) (cj h4 (cj h5 (cj (deq_f h6) (cj (deq_t h7) True.intro))))))) (by kernel_rfl) hL
theorem l22(fre:List ARat)(val:Int)(site_4:ARange)(site_12 wid:ARat)(cmp:Int)(mid:ARat)(val1:Int){r:PV}(h1:Contract prg 39 [site_4.pv] wid.pv)(h2:Contract prg 37 [wid.pv,site_12.pv] (vI cmp))(h3:0<cmp)(h4:Contract prg 65 [site_4.pv] mid.pv)(h5:Contract prg 64 [(polyPV fre),mid.pv] (vI val1))(h6:val1≠0)(h7:val1≠val)(hL:Loop2 fre val (⟨site_4.lo,mid⟩:ARange) site_12 r):Loop2 fre val site_4 site_12 r :=
 L.go mixed tabOk (n:=297) (ns:=[1,1,1,1,1,1,1]) (tr:=[.auto,dr 5 0 [.none,(.pv wid.pv),.none,(.pv (vI cmp))],.dec true,.reg [.none,(.pv mid.pv)],.reg [.none,.none,(.pv (vI val1))],.reg [],.dec false,.reg [],.dec false,.reg [],.keep [4,6,11,12,15],.drop [16]]) (cj h1 (cj h2 (cj (dlt_t h3) (cj h4 (cj h5 (cj (deq_f h6) (cj (deq_f h7) True.intro))))))) (by kernel_rfl) hL
theorem l23(fre:List ARat)(val:Int)(site_4:ARange)(site_12 wid:ARat)(cmp:Int)(h1:Contract prg 39 [site_4.pv] wid.pv)(h2:Contract prg 37 [wid.pv,site_12.pv] (vI cmp))(h3:cmp≤0):Loop2 fre val site_4 site_12 (.tup [site_4.pv,.nilI]) :=
 L.done mixed tabOk (n:=267) (ns:=[1,1,1]) (tr:=[.auto,dr 5 0 [.none,(.pv wid.pv),.none,(.pv (vI cmp))],.dec false,.reg []]) (cj h1 (cj h2 (cj (dlt_f h3) True.intro))) (by kernel_rfl)
end sturm_Refine
namespace sturm_Isolate
theorem e0(p:List ARat)(bou:ARat)(cha:List (List ARat))(neg:ARat)(z:List ARange)(h1:Contract prg 15 [(polyPV p)] (.tup [bou.pv,.nilI]))(h2:Contract prg 48 [(polyPV p)] (.tup [(lpv (lcell ARat.cells) cha),.nilI]))(h3:Contract prg 30 [bou.pv] neg.pv)(h4:ContractX prg 89 [.pv .nilS,.pv (polyPV p),.pv (lpv (lcell ARat.cells) cha),.pv neg.pv,.pv bou.pv] [] (.row 0 0 z.length 6) [(0,(.pure ((z:List ARange).map ARange.cells).flatten))]):Contract prg 32 [(polyPV p)] (.tup [(lpv ARange.cells z),.nilI]) :=
 Contract.ofL Tryz.func32 (by kernel_rfl) (L.done mixed tabOk (n:=114) (ns:=[1,1,1,1,3]) (tr:=[.reg [],.reg [.none,(.pv (.tup [bou.pv,.nilI]))],.reg [],.auto,.reg [.none,(.pv (.tup [(lpv (lcell ARat.cells) cha),.nilI]))],.reg [],.auto,dr 5 3 [.none,.none,.none,(.pv neg.pv),.none,(.callX [] (some (0,28)) (.row 0 0 z.length 6) [(0,(.pure ((z:List ARange).map ARange.cells).flatten))])],.frzT 2 ((z:List ARange).map ARange.cells)]) (cj h1 (cj h2 (cj h3 (cj h4 (cj (o_frz sz_ARange (z:List ARange) (Eq.refl (z:List ARange).length)) True.intro))))) (by kernel_rfl))
theorem e2(p:List ARat)(bou:ARat)(bou1:Int)(h1:Contract prg 15 [(polyPV p)] (.tup [bou.pv,(.iface 86 (vI bou1))])):Contract prg 32 [(polyPV p)] (.tup [(lpv ARange.cells []),(.iface 86 (vI bou1))]) :=
 Contract.ofL Tryz.func32 (by kernel_rfl) (L.done mixed tabOk (n:=90) (ns:=[1]) (tr:=[.reg [],.reg [.none,(.pv (.tup [bou.pv,(.iface 86 (vI bou1))]))],.reg [],.auto,.reg []]) (cj h1 True.intro) (by kernel_rfl))
end sturm_Isolate
namespace sturm_Isolating
theorem e0(p:List ARat)(rV:ARange)(iso:Bool)(iso1:Option Int)(h1:Contract prg 46 [(polyPV p)] .nilI)(h2:Contract prg 61 [(polyPV p),rV.pv] (.tup [(vB iso),(errPV iso1)])):Contract prg 33 [(polyPV p),rV.pv] (.tup [(vB iso),(errPV iso1)]) :=
 Contract.ofL Tryz.func33 (by kernel_rfl) (L.done mixed tabOk (n:=93) (ns:=[1,1]) (tr:=[.reg [],.reg [.none,(.pv .nilI)],.reg [],.auto,.reg [.none,.none,(.pv (.tup [(vB iso),(errPV iso1)]))]]) (cj h1 (cj h2 True.intro)) (by kernel_rfl))
theorem e1(p:List ARat)(rV:ARange)(che:Int)(h1:Contract prg 46 [(polyPV p)] (.iface 86 (vI che))):Contract prg 33 [(polyPV p),rV.pv] (.tup [(vB false),(.iface 86 (vI che))]) :=
 Contract.ofL Tryz.func33 (by kernel_rfl) (L.done mixed tabOk (n:=90) (ns:=[1]) (tr:=[.reg [],.reg [.none,(.pv (.iface 86 (vI che)))],.reg [],.auto,.reg []]) (cj h1 True.intro) (by kernel_rfl))
end sturm_Isolating
namespace linkworkref06_Isolate
theorem e0(p:List ARat)(bou:ARat)(bou1:Int)(h1:Contract prg 18 [(polyPV p)] (.tup [bou.pv,(vI bou1)]))(h2:bou1≠0):Contract prg 34 [(polyPV p)] (.tup [(lpv ARange.cells []),(vI bou1)]) :=
 Contract.ofL Tryz.func34 (by kernel_rfl) (L.done mixed tabOk (n:=90) (ns:=[1,1]) (tr:=[.reg [],.reg [.none,(.pv (.tup [bou.pv,(vI bou1)]))],.reg [],.dec true,.reg []]) (cj h1 (cj (dne_t h2) True.intro)) (by kernel_rfl))
theorem e1(p:List ARat)(bou:ARat)(bou1:Int)(cha:List (List ARat))(neg:ARat)(sea:List ARange)(h1:Contract prg 18 [(polyPV p)] (.tup [bou.pv,(vI bou1)]))(h2:bou1=0)(h3:Contract prg 91 [(polyPV p)] (lpv (lcell ARat.cells) cha))(h4:Contract prg 55 [bou.pv] neg.pv)(h5:Contract prg 90 [(lpv (lcell ARat.cells) cha),neg.pv,bou.pv] (lpv ARange.cells sea)):Contract prg 34 [(polyPV p)] (.tup [(lpv ARange.cells sea),(vI 0)]) :=
 Contract.ofL Tryz.func34 (by kernel_rfl) (L.done mixed tabOk (n:=93) (ns:=[1,1,1,1,1]) (tr:=[.reg [],.reg [.none,(.pv (.tup [bou.pv,(vI bou1)]))],.reg [],.dec false,dr 6 2 [.none,(.pv (lpv (lcell ARat.cells) cha)),.none,(.pv neg.pv),.none,(.pv (lpv ARange.cells sea))]]) (cj h1 (cj (dne_f h2) (cj h3 (cj h4 (cj h5 True.intro))))) (by kernel_rfl))
end linkworkref06_Isolate
namespace linkworkref06_Isolating
theorem e0(p:List ARat)(rV:ARange)(err:Int)(h1:Contract prg 52 [(polyPV p)] (vI err))(h2:err≠0):Contract prg 35 [(polyPV p),rV.pv] (.tup [(vB false),(vI err)]) :=
 Contract.ofL Tryz.func35 (by kernel_rfl) (L.done mixed tabOk (n:=90) (ns:=[1,1]) (tr:=[.reg [],.reg [.none,(.pv (vI err))],.reg [],.dec true,.reg []]) (cj h1 (cj (dne_t h2) True.intro)) (by kernel_rfl))
theorem e1(p:List ARat)(rV:ARange)(err:Int)(iso:Bool)(h1:Contract prg 52 [(polyPV p)] (vI err))(h2:err=0)(h3:Contract prg 67 [(polyPV p),rV.pv] (vB iso)):Contract prg 35 [(polyPV p),rV.pv] (.tup [(vB iso),(vI 0)]) :=
 Contract.ofL Tryz.func35 (by kernel_rfl) (L.done mixed tabOk (n:=93) (ns:=[1,1,1]) (tr:=[.reg [],.reg [.none,(.pv (vI err))],.reg [],.dec false,.reg [.none,.none,(.pv (vB iso))]]) (cj h1 (cj (dne_f h2) (cj h3 True.intro))) (by kernel_rfl))
end linkworkref06_Isolating
namespace sturm_check
theorem e0(p:List ARat)(h1:Contract prg 84 [(polyPV p)] .nilI)(h2:p.length=0):Contract prg 46 [(polyPV p)] (.iface 86 (vI 8)) :=
 Contract.ofL Tryz.func46 (by kernel_rfl) (L.done mixed tabOk (n:=105) (ns:=[1,1,1]) (tr:=[.reg [],.reg [.none,(.pv .nilI)],.reg [],.auto,.reg [.none,(iI (p.length:Int))],.dec true,.reg []]) (cj h1 (cj (o_len ARat.cells p) (cj (deqN_t h2) True.intro))) (by kernel_rfl))
theorem e1(p:List ARat)(h1:Contract prg 84 [(polyPV p)] .nilI)(h2:p.length≠0):Contract prg 46 [(polyPV p)] .nilI :=
 Contract.ofL Tryz.func46 (by kernel_rfl) (L.done mixed tabOk (n:=108) (ns:=[1,1,1]) (tr:=[.reg [],.reg [.none,(.pv .nilI)],.reg [],.auto,.reg [.none,(iI (p.length:Int))],.dec false,.reg []]) (cj h1 (cj (o_len ARat.cells p) (cj (deqN_f h2) True.intro))) (by kernel_rfl))
theorem e2(p:List ARat)(che:Int)(h1:Contract prg 84 [(polyPV p)] (.iface 86 (vI che))):Contract prg 46 [(polyPV p)] (.iface 86 (vI che)) :=
 Contract.ofL Tryz.func46 (by kernel_rfl) (L.done mixed tabOk (n:=90) (ns:=[1]) (tr:=[.reg [],.reg [.none,(.pv (.iface 86 (vI che)))],.reg [],.auto,.reg []]) (cj h1 True.intro) (by kernel_rfl))
end sturm_check
namespace sturm_chain
@[reducible] noncomputable def fn:Func:=Tryz.f48
noncomputable def atK1:List Itm:=focus [0,2,0,2,0,0,2,1,2,0,2,0,0,2,1,2,0,2,0,0,0] [.code (bodyOf fn)]
def inv1(d_6:List ARat)(site_28:List (List ARat)):St:=⟨[(6,(.pv (polyPV d_6))),(7,(.row 28 0 site_28.length 1))],[(28,(.pure ((site_28:List (List ARat)).map (lcell ARat.cells)).flatten))]⟩
@[reducible] noncomputable def Loop1(d_6:List ARat)(site_28:List (List ARat))(r:PV):Prop:=L prg fn atK1 (inv1 d_6 site_28) r
theorem e0(p fre der:List ARat){r:PV}(h1:Contract prg 31 [(polyPV p)] (.tup [(polyPV fre),.nilI]))(h2:Contract prg 102 [(polyPV fre)] (.tup [(polyPV der),.nilI]))(hL:Loop1 der [fre] r):Contract prg 48 [(polyPV p)] r :=
 Contract.ofL Tryz.func48 (by kernel_rfl) (L.go mixed tabOk (n:=123) (ns:=[1,1]) (tr:=[.reg [],.reg [.none,(.pv (.tup [(polyPV fre),.nilI]))],.reg [],.auto,.reg [.none,(.pv (.tup [(polyPV der),.nilI]))],.reg [],.auto,.reg [],.keep [6,7]]) (cj h1 (cj h2 True.intro)) (by kernel_rfl) hL)
theorem l10(d_6:List ARat)(site_28:List (List ARat))(k:Nat)(v div div1:List ARat)(of:ARat)(sca:List ARat){r:PV}(h1:0<d_6.length)(h2:((site_28++[d_6]):List (List ARat)).length*24≤140737488355328)(h3:InI64 ((((site_28++[d_6]).length:Nat):Int)-2))(h4:((((site_28++[d_6]).length:Nat):Int)-2)=(k:Int))(h5:k<(site_28++[d_6]).length)(h6:(site_28++[d_6])[k]? = some v)(h7:Contract prg 103 [(polyPV v),(polyPV d_6)] (.tup [(polyPV div),(polyPV div1),.nilI]))(h8:Contract prg 43 [(vI (-1))] of.pv)(h9:Contract prg 104 [(polyPV div1),of.pv] (.tup [(polyPV sca),.nilI]))(hL:Loop1 sca (site_28++[d_6]) r):Loop1 d_6 site_28 r :=
 L.go mixed tabOk (n:=192) (ns:=[1,1,6,1,2,1,1,1,1]) (tr:=[.auto,.reg [.none,(iI (d_6.length:Int))],.dec true,.reg [.none,.none,.none,(.app ((site_28++[d_6]):List (List ARat)).length (((site_28++[d_6]):List (List ARat)).map (lcell ARat.cells)).flatten)],.reg [.none,.none,.none,(iI ((((site_28++[d_6]).length:Nat):Int)-2)),(.nat k),(.ev (.pv (polyPV v))),.none,(.pv (.tup [(polyPV div),(polyPV div1),.nilI]))],.reg [],.auto,.reg [.none,(.pv of.pv),(.pv (.tup [(polyPV sca),.nilI]))],.reg [],.auto,.keep [6,7],.drop [34],.ren 35 28]) (cj (o_len ARat.cells d_6) (cj (dltN_t h1) (cj (o_appR (sz_l ARat.cells) (site_28:List (List ARat)) ([d_6]:List (List ARat)) 24 (Eq.refl (site_28:List (List ARat)).length) (Eq.refl ([d_6]:List (List ARat)).length) h2 rfl) (cj (bs_sub h3) (cj (cj h4 h5) (cj (o_get (enc:=(lcell ARat.cells)) (f:=fun a=>(polyPV a)) (fun _=>rfl) h6) (cj h7 (cj h8 (cj h9 True.intro))))))))) (by kernel_rfl) hL
theorem l13(d_6:List ARat)(site_28:List (List ARat))(h1:d_6.length≤0):Loop1 d_6 site_28 (.tup [(lpv (lcell ARat.cells) site_28),.nilI]) :=
 L.done mixed tabOk (n:=156) (ns:=[1,1,3]) (tr:=[.auto,.reg [.none,(iI (d_6.length:Int))],.dec false,.reg [],.frzT 2 ((site_28:List (List ARat)).map (lcell ARat.cells))]) (cj (o_len ARat.cells d_6) (cj (dltN_f h1) (cj (o_frz (sz_l ARat.cells) (site_28:List (List ARat)) (Eq.refl (site_28:List (List ARat)).length)) True.intro))) (by kernel_rfl)
end sturm_chain
namespace sturm_changes
@[reducible] noncomputable def fn:Func:=Tryz.f49
noncomputable def atK1:List Itm:=focus [0,2,0,2,0,0,2,0,0] [.code (bodyOf fn)]
def inv1(n_5:Nat)(last_6:Int)(l:List (List ARat))(t_12:Nat)(x:ARat):St:=⟨[(3,(.ptr 3 0)),(5,(eI (n_5:Int))),(6,(eI last_6)),(10,(.pv (lpv (lcell ARat.cells) l))),(11,(eI (l.length:Int))),(12,(eI (t_12:Int)))],[(3,(.lit [(eB x.neg),(.pv (wordsPV x.num)),(.pv (wordsPV x.den))]))]⟩
@[reducible] noncomputable def Loop1(n_5:Nat)(last_6:Int)(l:List (List ARat))(t_12:Nat)(x:ARat)(r:PV):Prop:=L prg fn atK1 (inv1 n_5 last_6 l t_12 x) r
theorem e0 (l : List (List ARat)) (x : ARat) {r : PV}  (hL : Loop1 0 0 l 0 x r) : Contract prg 49 [(lpv (lcell ARat.cells) l), x.pv] r :=
 Contract.ofL Tryz.func49 (by kernel_rfl) (L.go mixed tabOk (n:=87) (ns:=[1]) (tr:=[.reg [],.reg [],.reg [.none,(iI (l.length:Int))],.keep [3,5,6,10,11,12]]) (cj (o_len (lcell ARat.cells) l) True.intro) (by kernel_rfl) hL)
theorem l10(n_5:Nat)(last_6:Int)(l:List (List ARat))(t_12:Nat)(x:ARat)(v:List ARat)(val:Int){r:PV}(h1:t_12<l.length)(h2:l[t_12]? = some v)(h3:Contract prg 64 [(polyPV v),x.pv] (vI val))(h4:val≠0)(h5:InI64 (-last_6))(h6:val=(-last_6))(h7:(n_5+1)<9223372036854775808)(h8:(t_12+1)<9223372036854775808)(hL:Loop1 (n_5+1) val l (t_12+1) x r):Loop1 n_5 last_6 l t_12 x r :=
 L.go mixed tabOk (n:=156) (ns:=[1,3,1,1,1,1,1,1]) (tr:=[.auto,.reg [],.dec true,.reg [(.row t_12 ((lcell ARat.cells) v))],.reg [.none,.none,(.pv (vI val))],.reg [],.dec true,.reg [.none,.none,(iI (-last_6))],.dec true,.reg [.none,(iI (((n_5+1):Nat):Int))],.reg [],.reg [(iI (((t_12+1):Nat):Int))],.keep [3,5,6,10,11,12]]) (cj (dltN_t h1) (cj (o_at (lcell ARat.cells) (Eq.refl (((t_12:Nat):Int):Int)) h2) (cj h3 (cj (dne_t h4) (cj (us_neg h5) (cj (deq_t h6) (cj (bs_addN h7) (cj (bs_addN h8) True.intro)))))))) (by kernel_rfl) hL
theorem l11(n_5:Nat)(last_6:Int)(l:List (List ARat))(t_12:Nat)(x:ARat)(v:List ARat)(val:Int){r:PV}(h1:t_12<l.length)(h2:l[t_12]? = some v)(h3:Contract prg 64 [(polyPV v),x.pv] (vI val))(h4:val≠0)(h5:InI64 (-last_6))(h6:val≠(-last_6))(h7:(t_12+1)<9223372036854775808)(hL:Loop1 n_5 val l (t_12+1) x r):Loop1 n_5 last_6 l t_12 x r :=
 L.go mixed tabOk (n:=156) (ns:=[1,3,1,1,1,1,1]) (tr:=[.auto,.reg [],.dec true,.reg [(.row t_12 ((lcell ARat.cells) v))],.reg [.none,.none,(.pv (vI val))],.reg [],.dec true,.reg [.none,.none,(iI (-last_6))],.dec false,.reg [],.reg [(iI (((t_12+1):Nat):Int))],.keep [3,5,6,10,11,12]]) (cj (dltN_t h1) (cj (o_at (lcell ARat.cells) (Eq.refl (((t_12:Nat):Int):Int)) h2) (cj h3 (cj (dne_t h4) (cj (us_neg h5) (cj (deq_f h6) (cj (bs_addN h7) True.intro))))))) (by kernel_rfl) hL
theorem l12(n_5:Nat)(last_6:Int)(l:List (List ARat))(t_12:Nat)(x:ARat)(v:List ARat)(val:Int){r:PV}(h1:t_12<l.length)(h2:l[t_12]? = some v)(h3:Contract prg 64 [(polyPV v),x.pv] (vI val))(h4:val=0)(h5:(t_12+1)<9223372036854775808)(hL:Loop1 n_5 last_6 l (t_12+1) x r):Loop1 n_5 last_6 l t_12 x r :=
 L.go mixed tabOk (n:=141) (ns:=[1,3,1,1,1]) (tr:=[.auto,.reg [],.dec true,.reg [(.row t_12 ((lcell ARat.cells) v))],.reg [.none,.none,(.pv (vI val))],.reg [],.dec false,.reg [(iI (((t_12+1):Nat):Int))],.keep [3,5,6,10,11,12]]) (cj (dltN_t h1) (cj (o_at (lcell ARat.cells) (Eq.refl (((t_12:Nat):Int):Int)) h2) (cj h3 (cj (dne_f h4) (cj (bs_addN h5) True.intro))))) (by kernel_rfl) hL
theorem l13(n_5:Nat)(last_6:Int)(l:List (List ARat))(t_12:Nat)(x:ARat)(h1:l.length≤t_12):Loop1 n_5 last_6 l t_12 x (vI (n_5:Int)) :=
 L.done mixed tabOk (n:=120) (ns:=[1]) (tr:=[.auto,.reg [],.dec false,.reg []]) (cj (dltN_f h1) True.intro) (by kernel_rfl)
end sturm_changes
namespace linkworkref06_Error
theorem e0(p:List ARat)(che:Int)(h1:Contract prg 106 [(polyPV p)] (vI che))(h2:che≠0):Contract prg 52 [(polyPV p)] (vI che) :=
 Contract.ofL Tryz.func52 (by kernel_rfl) (L.done mixed tabOk (n:=90) (ns:=[1,1]) (tr:=[.reg [],.reg [.none,(.pv (vI che))],.reg [],.dec true,.reg []]) (cj h1 (cj (dne_t h2) True.intro)) (by kernel_rfl))
theorem e1(p:List ARat)(che:Int)(h1:Contract prg 106 [(polyPV p)] (vI che))(h2:che=0)(h3:p.length=0):Contract prg 52 [(polyPV p)] (vI 8) :=
 Contract.ofL Tryz.func52 (by kernel_rfl) (L.done mixed tabOk (n:=105) (ns:=[1,1,1,1]) (tr:=[.reg [],.reg [.none,(.pv (vI che))],.reg [],.dec false,.reg [.none,(iI (p.length:Int))],.dec true,.reg []]) (cj h1 (cj (dne_f h2) (cj (o_len ARat.cells p) (cj (deqN_t h3) True.intro)))) (by kernel_rfl))
theorem e2(p:List ARat)(che:Int)(h1:Contract prg 106 [(polyPV p)] (vI che))(h2:che=0)(h3:p.length≠0):Contract prg 52 [(polyPV p)] (vI 0) :=
 Contract.ofL Tryz.func52 (by kernel_rfl) (L.done mixed tabOk (n:=108) (ns:=[1,1,1,1]) (tr:=[.reg [],.reg [.none,(.pv (vI che))],.reg [],.dec false,.reg [.none,(iI (p.length:Int))],.dec false,.reg []]) (cj h1 (cj (dne_f h2) (cj (o_len ARat.cells p) (cj (deqN_f h3) True.intro)))) (by kernel_rfl))
end linkworkref06_Error
namespace linkworkref06_count
theorem e0(p:List ARat)(lo hi:ARat)(cha:List (List ARat))(cha1 cha2:Int)(h1:Contract prg 91 [(polyPV p)] (lpv (lcell ARat.cells) cha))(h2:Contract prg 108 [(lpv (lcell ARat.cells) cha),lo.pv] (vI cha1))(h3:Contract prg 108 [(lpv (lcell ARat.cells) cha),hi.pv] (vI cha2))(h4:InI64 (cha1-cha2)):Contract prg 54 [(polyPV p),lo.pv,hi.pv] (vI (cha1-cha2)) :=
 Contract.ofL Tryz.func54 (by kernel_rfl) (L.done mixed tabOk (n:=78) (ns:=[1,1,1,1]) (tr:=[.reg [],.reg [.none,(.pv (lpv (lcell ARat.cells) cha))],dr 7 1 [.none,.none,(.pv (vI cha1)),.none,.none,(.pv (vI cha2)),(iI (cha1-cha2))]]) (cj h1 (cj h2 (cj h3 (cj (bs_sub h4) True.intro)))) (by kernel_rfl))
end linkworkref06_count
namespace sturm_isolating
theorem e0(p:List ARat)(rV:ARange)(val:Bool)(h1:Contract prg 117 [rV.pv] (vB val))(h2:val=false):Contract prg 61 [(polyPV p),rV.pv] (.tup [(vB false),.nilI]) :=
 Contract.ofL Tryz.func61 (by kernel_rfl) (L.done mixed tabOk (n:=84) (ns:=[1,1]) (tr:=[.reg [],.reg [.none,(.pv (vB val))],.dec true,.reg []]) (cj h1 (cj (bnot_t h2) True.intro)) (by kernel_rfl))
theorem e1(p:List ARat)(rV:ARange)(val:Bool)(cmp val1:Int)(h1:Contract prg 117 [rV.pv] (vB val))(h2:val=true)(h3:Contract prg 37 [rV.lo.pv,rV.hi.pv] (vI cmp))(h4:cmp=0)(h5:Contract prg 64 [(polyPV p),rV.lo.pv] (vI val1)):Contract prg 61 [(polyPV p),rV.pv] (.tup [(vB (val1==0)),.nilI]) :=
 Contract.ofL Tryz.func61 (by kernel_rfl) (L.done mixed tabOk (n:=99) (ns:=[1,1,1,1,1]) (tr:=[.reg [],.reg [.none,(.pv (vB val))],.dec false,.reg [.none,.none,.none,.none,(.pv (vI cmp))],.dec true,.reg [.none,.none,.none,(.pv (vI val1))]]) (cj h1 (cj (bnot_f h2) (cj h3 (cj (deq_t h4) (cj h5 True.intro))))) (by kernel_rfl))
theorem e2(p:List ARat)(rV:ARange)(val:Bool)(cmp:Int)(fre:List ARat)(val1 val2:Int)(h1:Contract prg 117 [rV.pv] (vB val))(h2:val=true)(h3:Contract prg 37 [rV.lo.pv,rV.hi.pv] (vI cmp))(h4:cmp≠0)(h5:Contract prg 31 [(polyPV p)] (.tup [(polyPV fre),.nilI]))(h6:Contract prg 64 [(polyPV fre),rV.lo.pv] (vI val1))(h7:Contract prg 64 [(polyPV fre),rV.hi.pv] (vI val2))(h8:InI64 (val1*val2))(h9:(val1*val2)≠(-1)):Contract prg 61 [(polyPV p),rV.pv] (.tup [(vB false),.nilI]) :=
 Contract.ofL Tryz.func61 (by kernel_rfl) (L.done mixed tabOk (n:=135) (ns:=[1,1,1,1,1,1,1,1,1]) (tr:=[.reg [],.reg [.none,(.pv (vB val))],.dec false,.reg [.none,.none,.none,.none,(.pv (vI cmp))],.dec false,.reg [.none,(.pv (.tup [(polyPV fre),.nilI]))],.reg [],.auto,dr 10 0 [.none,.none,.none,(.pv (vI val1)),.none,.none,.none,(.pv (vI val2)),(iI (val1*val2))],.dec true,.reg []]) (cj h1 (cj (bnot_f h2) (cj h3 (cj (deq_f h4) (cj h5 (cj h6 (cj h7 (cj (bs_mul h8) (cj (dne_t h9) True.intro))))))))) (by kernel_rfl))
theorem e3(p:List ARat)(rV:ARange)(val:Bool)(cmp:Int)(fre:List ARat)(val1 val2 cou:Int)(cou1:Option Int)(h1:Contract prg 117 [rV.pv] (vB val))(h2:val=true)(h3:Contract prg 37 [rV.lo.pv,rV.hi.pv] (vI cmp))(h4:cmp≠0)(h5:Contract prg 31 [(polyPV p)] (.tup [(polyPV fre),.nilI]))(h6:Contract prg 64 [(polyPV fre),rV.lo.pv] (vI val1))(h7:Contract prg 64 [(polyPV fre),rV.hi.pv] (vI val2))(h8:InI64 (val1*val2))(h9:(val1*val2)=(-1))(h10:Contract prg 13 [(polyPV p),rV.lo.pv,rV.hi.pv] (.tup [(vI cou),(errPV cou1)])):Contract prg 61 [(polyPV p),rV.pv] (.tup [(vB (cou==1)),(errPV cou1)]) :=
 Contract.ofL Tryz.func61 (by kernel_rfl) (L.done mixed tabOk (n:=144) (ns:=[1,1,1,1,1,1,1,1,1,1]) (tr:=[.reg [],.reg [.none,(.pv (vB val))],.dec false,.reg [.none,.none,.none,.none,(.pv (vI cmp))],.dec false,.reg [.none,(.pv (.tup [(polyPV fre),.nilI]))],.reg [],.auto,dr 10 0 [.none,.none,.none,(.pv (vI val1)),.none,.none,.none,(.pv (vI val2)),(iI (val1*val2))],.dec false,.reg [.none,.none,.none,.none,.none,(.pv (.tup [(vI cou),(errPV cou1)]))],.reg []]) (cj h1 (cj (bnot_f h2) (cj h3 (cj (deq_f h4) (cj h5 (cj h6 (cj h7 (cj (bs_mul h8) (cj (dne_f h9) (cj h10 True.intro)))))))))) (by kernel_rfl))
end sturm_isolating
namespace sturm_value
theorem e0(p:List ARat)(x eva:ARat)(eva1:Option Int)(sig:Int)(h1:Contract prg 118 [(polyPV p),x.pv] (.tup [eva.pv,(errPV eva1)]))(h2:Contract prg 105 [eva.pv] (vI sig)):Contract prg 64 [(polyPV p),x.pv] (vI sig) :=
 Contract.ofL Tryz.func64 (by kernel_rfl) (L.done mixed tabOk (n:=78) (ns:=[1,1]) (tr:=[.reg [],.reg [.none,.none,(.pv (.tup [eva.pv,(errPV eva1)]))],.reg [.none,(.pv (vI sig))]]) (cj h1 (cj h2 True.intro)) (by kernel_rfl))
end sturm_value
namespace linkworkref06_isolating
theorem e0(p:List ARat)(rV:ARange)(val:Bool)(h1:Contract prg 120 [rV.pv] (vB val))(h2:val=false):Contract prg 67 [(polyPV p),rV.pv] (vB false) :=
 Contract.ofL Tryz.func67 (by kernel_rfl) (L.done mixed tabOk (n:=84) (ns:=[1,1]) (tr:=[.reg [],.reg [.none,(.pv (vB val))],.dec true,.reg []]) (cj h1 (cj (bnot_t h2) True.intro)) (by kernel_rfl))
theorem e1(p:List ARat)(rV:ARange)(val:Bool)(cmp sig:Int)(h1:Contract prg 120 [rV.pv] (vB val))(h2:val=true)(h3:Contract prg 53 [rV.lo.pv,rV.hi.pv] (vI cmp))(h4:cmp=0)(h5:Contract prg 121 [(polyPV p),rV.lo.pv] (vI sig)):Contract prg 67 [(polyPV p),rV.pv] (vB (sig==0)) :=
 Contract.ofL Tryz.func67 (by kernel_rfl) (L.done mixed tabOk (n:=99) (ns:=[1,1,1,1,1]) (tr:=[.reg [],.reg [.none,(.pv (vB val))],.dec false,.reg [.none,.none,.none,.none,(.pv (vI cmp))],.dec true,.reg [.none,.none,.none,(.pv (vI sig))]]) (cj h1 (cj (bnot_f h2) (cj h3 (cj (deq_t h4) (cj h5 True.intro))))) (by kernel_rfl))
theorem e2(p:List ARat)(rV:ARange)(val:Bool)(cmp sig sig1 cou:Int)(h1:Contract prg 120 [rV.pv] (vB val))(h2:val=true)(h3:Contract prg 53 [rV.lo.pv,rV.hi.pv] (vI cmp))(h4:cmp≠0)(h5:Contract prg 121 [(polyPV p),rV.lo.pv] (vI sig))(h6:Contract prg 121 [(polyPV p),rV.hi.pv] (vI sig1))(h7:InI64 (sig*sig1))(h8:(sig*sig1)=(-1))(h9:Contract prg 54 [(polyPV p),rV.lo.pv,rV.hi.pv] (vI cou)):Contract prg 67 [(polyPV p),rV.pv] (vB (cou==1)) :=
 Contract.ofL Tryz.func67 (by kernel_rfl) (L.done mixed tabOk (n:=102) (ns:=[1,1,1,1,1,1,1,1,1,1,1,1,1,1,1,1]) (tr:=[.reg [],.reg [.none,(.pv (vB val))],.dec false,.reg [.none,.none,.none,.none,(.pv (vI cmp))],.dec false,dr 19 1 [.none,.none,.none,(.pv (vI sig)),.none,.none,.none,(.pv (vI sig1)),(iI (sig*sig1)),.none,.none,.none,.none,.none,.none,.none,(.pv (vI cou)),.none,(.dec true)]]) (cj h1 (cj (bnot_f h2) (cj h3 (cj (deq_f h4) (cj h5 (cj h6 (cj (bs_mul h7) (cj (deq_t h8) (cj (deq_t h8) (cj (deq_t h8) (cj (deq_t h8) (cj (deq_t h8) (cj (deq_t h8) (cj h9 (cj (deq_t h8) (cj (deq_t h8) True.intro)))))))))))))))) (by kernel_rfl))
theorem e3(p:List ARat)(rV:ARange)(val:Bool)(cmp sig sig1:Int)(h1:Contract prg 120 [rV.pv] (vB val))(h2:val=true)(h3:Contract prg 53 [rV.lo.pv,rV.hi.pv] (vI cmp))(h4:cmp≠0)(h5:Contract prg 121 [(polyPV p),rV.lo.pv] (vI sig))(h6:Contract prg 121 [(polyPV p),rV.hi.pv] (vI sig1))(h7:InI64 (sig*sig1))(h8:(sig*sig1)≠(-1)):Contract prg 67 [(polyPV p),rV.pv] (vB false) :=
 Contract.ofL Tryz.func67 (by kernel_rfl) (L.done mixed tabOk (n:=102) (ns:=[1,1,1,1,1,1,1,1,1,1,1,1,1,1,1]) (tr:=[.reg [],.reg [.none,(.pv (vB val))],.dec false,.reg [.none,.none,.none,.none,(.pv (vI cmp))],.dec false,dr 19 1 [.none,.none,.none,(.pv (vI sig)),.none,.none,.none,(.pv (vI sig1)),(iI (sig*sig1)),.none,.none,.skip,.skip,.skip,.skip,.skip,.skip,.skip,(.dec false)]]) (cj h1 (cj (bnot_f h2) (cj h3 (cj (deq_f h4) (cj h5 (cj h6 (cj (bs_mul h7) (cj (deq_f h8) (cj (deq_f h8) (cj (deq_f h8) (cj (deq_f h8) (cj (deq_f h8) (cj (deq_f h8) (cj (deq_f h8) (cj (deq_f h8) True.intro))))))))))))))) (by kernel_rfl))
end linkworkref06_isolating
namespace sturm_searchN
@[reducible] noncomputable def fn:Func:=Tryz.f89
theorem e0(p:List ARat)(l:List (List ARat))(lo hi:ARat)(cha cha1:Int)(h1:Contract prg 49 [(lpv (lcell ARat.cells) l),lo.pv] (vI cha))(h2:Contract prg 49 [(lpv (lcell ARat.cells) l),hi.pv] (vI cha1))(h3:InI64 (cha-cha1))(h4:(cha-cha1)=0):ContractX prg 89 [(.pv .nilS),(.pv (polyPV p)),(.pv (lpv (lcell ARat.cells) l)),(.pv lo.pv),(.pv hi.pv)] [] (.row 0 0 0 6) [(0,(.pure (([]:List ARange).map ARange.cells).flatten))] :=
 ContractX.ofL Tryz.func89 (by kernel_rfl) (LX.done mixed tabOk (n:=90) (ns:=[1,1,1,1]) (tr:=[.adopt 0 1 6,.reg [],dr 7 1 [.none,.none,(.pv (vI cha)),.none,.none,(.pv (vI cha1)),(iI (cha-cha1))],.reg [],.dec true,.reg [],.ren 1 0,.drop [9,8],.ord [0]]) rfl (cj h1 (cj h2 (cj (bs_sub h3) (cj (deq_t h4) True.intro)))) (by kernel_rfl))
theorem e1(p:List ARat)(l:List (List ARat))(lo hi:ARat)(cha cha1 val val1:Int)(poi:ARange)(h1:Contract prg 49 [(lpv (lcell ARat.cells) l),lo.pv] (vI cha))(h2:Contract prg 49 [(lpv (lcell ARat.cells) l),hi.pv] (vI cha1))(h3:InI64 (cha-cha1))(h4:(cha-cha1)≠0)(h5:(cha-cha1)=1)(h6:Contract prg 64 [(polyPV p),lo.pv] (vI val))(h7:val≠0)(h8:Contract prg 64 [(polyPV p),hi.pv] (vI val1))(h9:val1=0)(h10:Contract prg 66 [hi.pv] poi.pv)(h11:(([]:List ARange)++[poi]:List ARange).length*112≤140737488355328):ContractX prg 89 [(.pv .nilS),(.pv (polyPV p)),(.pv (lpv (lcell ARat.cells) l)),(.pv lo.pv),(.pv hi.pv)] [] (.row 0 0 ([poi].length) 6) [(0,(.pure (([poi]:List ARange).map ARange.cells).flatten))] :=
 ContractX.ofL Tryz.func89 (by kernel_rfl) (LX.done mixed tabOk (n:=117) (ns:=[1,1,1,1,1,1,1,1,1,1,1,1,1,1,6]) (tr:=[.adopt 0 1 6,.reg [],dr 7 1 [.none,.none,(.pv (vI cha)),.none,.none,(.pv (vI cha1)),(iI (cha-cha1))],.reg [],.dec false,.reg [.none,.none,.none,.none,.none,(.pv (vI val)),.none,(.dec true)],.dec true,.reg [.none,.none,(.pv (vI val1))],.dec true,.reg [.none,.none,(.pv poi.pv),.none,(.app ([poi]:List ARange).length (([poi]:List ARange).map ARange.cells).flatten)],.ren 39 0,.drop [38,9,8],.ord [0]]) rfl (cj h1 (cj h2 (cj (bs_sub h3) (cj (deq_f h4) (cj (deq_t h5) (cj (deq_t h5) (cj (deq_t h5) (cj h6 (cj (deq_t h5) (cj (deq_t h5) (cj (dne_t h7) (cj h8 (cj (deq_t h9) (cj h10 (cj (o_appR sz_ARange ([]:List ARange) ([poi]:List ARange) 112 (Eq.refl ([]:List ARange).length) (Eq.refl ([poi]:List ARange).length) h11 rfl) True.intro))))))))))))))) (by kernel_rfl))
theorem e2(p:List ARat)(l:List (List ARat))(lo hi:ARat)(cha cha1 val val1:Int)(add add1:ARat)(h1:Contract prg 49 [(lpv (lcell ARat.cells) l),lo.pv] (vI cha))(h2:Contract prg 49 [(lpv (lcell ARat.cells) l),hi.pv] (vI cha1))(h3:InI64 (cha-cha1))(h4:(cha-cha1)≠0)(h5:(cha-cha1)=1)(h6:Contract prg 64 [(polyPV p),lo.pv] (vI val))(h7:val≠0)(h8:Contract prg 64 [(polyPV p),hi.pv] (vI val1))(h9:val1≠0)(h10:Contract prg 29 [lo.pv,(⟨false,[],[]⟩:ARat).pv] add.pv)(h11:Contract prg 29 [hi.pv,(⟨false,[],[]⟩:ARat).pv] add1.pv)(h12:(([]:List ARange)++[(⟨add,add1⟩:ARange)]:List ARange).length*112≤140737488355328):ContractX prg 89 [(.pv .nilS),(.pv (polyPV p)),(.pv (lpv (lcell ARat.cells) l)),(.pv lo.pv),(.pv hi.pv)] [] (.row 0 0 ([(⟨add,add1⟩:ARange)].length) 6) [(0,(.pure (([(⟨add,add1⟩:ARange)]:List ARange).map ARange.cells).flatten))] :=
 ContractX.ofL Tryz.func89 (by kernel_rfl) (LX.done mixed tabOk (n:=120) (ns:=[1,1,1,1,1,1,1,1,1,1,1,1,1,1,1,6]) (tr:=[.adopt 0 1 6,.reg [],dr 7 1 [.none,.none,(.pv (vI cha)),.none,.none,(.pv (vI cha1)),(iI (cha-cha1))],.reg [],.dec false,.reg [.none,.none,.none,.none,.none,(.pv (vI val)),.none,(.dec true)],.dec true,.reg [.none,.none,(.pv (vI val1))],.dec false,dr 9 2 [.none,.none,.none,(.pv add.pv),.none,.none,(.pv add1.pv),.none,.none,(.app ([(⟨add,add1⟩:ARange)]:List ARange).length (([(⟨add,add1⟩:ARange)]:List ARange).map ARange.cells).flatten)],.ren 49 0,.drop [48,9,8],.ord [0]]) rfl (cj h1 (cj h2 (cj (bs_sub h3) (cj (deq_f h4) (cj (deq_t h5) (cj (deq_t h5) (cj (deq_t h5) (cj h6 (cj (deq_t h5) (cj (deq_t h5) (cj (dne_t h7) (cj h8 (cj (deq_f h9) (cj h10 (cj h11 (cj (o_appR sz_ARange ([]:List ARange) ([(⟨add,add1⟩:ARange)]:List ARange) 112 (Eq.refl ([]:List ARange).length) (Eq.refl ([(⟨add,add1⟩:ARange)]:List ARange).length) h12 rfl) True.intro)))))))))))))))) (by kernel_rfl))
theorem e3_any0(p:List ARat)(l:List (List ARat))(lo hi mid:ARat)(z z1:List ARange):anyL prg tab fn.ntmps (opsAt (focus [0,2,0,2,0,0,2,1,2,0,0,2,1,2,0,2,0] [.code (bodyOf fn)])) (allF (opsAt (focus [0,2,0,2,0,0,2,1,2,0,0,2,1,2,0,2,0] [.code (bodyOf fn)])) [0,1,2,6,7]) (downs (opsAt (focus [0,2,0,2,0,0,2,1,2,0,0,2,1,2,0,2,0] [.code (bodyOf fn)])) [0,1,2,6,7]) [.none,.none,.none,.none,.none,(.callX [(1,200000)] (some (0,59)) (.row 0 0 z.length 6) [(0,(.pure ((z:List ARange).map ARange.cells).flatten))]),.none,.none,.none,.none,(.callX [(59,200000)] (some (0,64)) (.row 0 0 z1.length 6) [(0,(.pure ((z1:List ARange).map ARange.cells).flatten))]),.none] (flS tab fn.ntmps (opsAt (focus [0,2,0,2,0,0,2,1,2,0,0,2,1,2,0,2,0] [.code (bodyOf fn)])) [0,1,2,6,7] ⟨[(0,(.row 1 0 0 6)),(1,(.pv (polyPV p))),(2,(.pv (lpv (lcell ARat.cells) l))),(8,(.ptr 8 0)),(9,(.ptr 9 0)),(12,(.ptr 12 0))],[(12,(.lit [(eB mid.neg),(.pv (wordsPV mid.num)),(.pv (wordsPV mid.den))])),(9,(.lit [(eB hi.neg),(.pv (wordsPV hi.num)),(.pv (wordsPV hi.den))])),(8,(.lit [(eB lo.neg),(.pv (wordsPV lo.num)),(.pv (wordsPV lo.den))])),(1,(.pure (([]:List ARange).map ARange.cells).flatten))]⟩)=anyR prg tab fn.ntmps (opsAt (focus [0,2,0,2,0,0,2,1,2,0,0,2,1,2,0,2,0] [.code (bodyOf fn)])) (allF (opsAt (focus [0,2,0,2,0,0,2,1,2,0,0,2,1,2,0,2,0] [.code (bodyOf fn)])) [0,1,2,6,7]) (downs (opsAt (focus [0,2,0,2,0,0,2,1,2,0,0,2,1,2,0,2,0] [.code (bodyOf fn)])) [0,1,2,6,7]) [.none,.none,.none,.none,.none,(.callX [(1,200000)] (some (0,59)) (.row 0 0 z.length 6) [(0,(.pure ((z:List ARange).map ARange.cells).flatten))]),.none,.none,.none,.none,(.callX [(59,200000)] (some (0,64)) (.row 0 0 z1.length 6) [(0,(.pure ((z1:List ARange).map ARange.cells).flatten))]),.none] (flS tab fn.ntmps (opsAt (focus [0,2,0,2,0,0,2,1,2,0,0,2,1,2,0,2,0] [.code (bodyOf fn)])) [0,1,2,6,7] ⟨[(0,(.row 1 0 0 6)),(1,(.pv (polyPV p))),(2,(.pv (lpv (lcell ARat.cells) l))),(8,(.ptr 8 0)),(9,(.ptr 9 0)),(12,(.ptr 12 0))],[(12,(.lit [(eB mid.neg),(.pv (wordsPV mid.num)),(.pv (wordsPV mid.den))])),(9,(.lit [(eB hi.neg),(.pv (wordsPV hi.num)),(.pv (wordsPV hi.den))])),(8,(.lit [(eB lo.neg),(.pv (wordsPV lo.num)),(.pv (wordsPV lo.den))])),(1,(.pure (([]:List ARange).map ARange.cells).flatten))]⟩):=by kernel_rfl
theorem e3(p:List ARat)(l:List (List ARat))(lo hi:ARat)(cha cha1 val:Int)(mid:ARat)(z z1:List ARange)(h1:Contract prg 49 [(lpv (lcell ARat.cells) l),lo.pv] (vI cha))(h2:Contract prg 49 [(lpv (lcell ARat.cells) l),hi.pv] (vI cha1))(h3:InI64 (cha-cha1))(h4:(cha-cha1)≠0)(h5:(cha-cha1)=1)(h6:Contract prg 64 [(polyPV p),lo.pv] (vI val))(h7:val=0)(h8:Contract prg 65 [(⟨lo,hi⟩:ARange).pv] mid.pv)(h9:ContractX prg 89 [.row 200000 0 0 6,.pv (polyPV p),.pv (lpv (lcell ARat.cells) l),.pv lo.pv,.pv mid.pv] [(200000,(.pure (([]:List ARange).map ARange.cells).flatten))] (.row 0 0 z.length 6) [(0,(.pure ((z:List ARange).map ARange.cells).flatten))])(h10:ContractX prg 89 [.row 200000 0 z.length 6,.pv (polyPV p),.pv (lpv (lcell ARat.cells) l),.pv mid.pv,.pv hi.pv] [(200000,(.pure ((z:List ARange).map ARange.cells).flatten))] (.row 0 0 z1.length 6) [(0,(.pure ((z1:List ARange).map ARange.cells).flatten))]):ContractX prg 89 [(.pv .nilS),(.pv (polyPV p)),(.pv (lpv (lcell ARat.cells) l)),(.pv lo.pv),(.pv hi.pv)] [] (.row 0 0 z1.length 6) [(0,(.pure ((z1:List ARange).map ARange.cells).flatten))] :=
 ContractX.ofL Tryz.func89 (by kernel_rfl) (LX.done mixed tabOk (n:=114) (ns:=[1,1,1,1,1,1,1,1,1,1,1,1,1,1,1]) (tr:=[.adopt 0 1 6,.reg [],dr 7 1 [.none,.none,(.pv (vI cha)),.none,.none,(.pv (vI cha1)),(iI (cha-cha1))],.reg [],.dec false,.reg [.none,.none,.none,.none,.none,(.pv (vI val)),.none,(.dec true)],.dec false,.reg [.none,.none,.none,(.pv mid.pv)],.keep [0,1,2,8,9,12],.any [0,1,2,6,7] [.none,.none,.none,.none,.none,(.callX [(1,200000)] (some (0,59)) (.row 0 0 z.length 6) [(0,(.pure ((z:List ARange).map ARange.cells).flatten))]),.none,.none,.none,.none,(.callX [(59,200000)] (some (0,64)) (.row 0 0 z1.length 6) [(0,(.pure ((z1:List ARange).map ARange.cells).flatten))]),.none],.ren 64 0,.drop [12,9,8],.ord [0]]) rfl (cj h1 (cj h2 (cj (bs_sub h3) (cj (deq_f h4) (cj (deq_t h5) (cj (deq_t h5) (cj (deq_t h5) (cj h6 (cj (deq_t h5) (cj (deq_t h5) (cj (dne_f h7) (cj h8 (cj h9 (cj h10 (cj (e3_any0 p l lo hi mid z z1) True.intro))))))))))))))) (by kernel_rfl))
theorem e4_any0(p:List ARat)(l:List (List ARat))(lo hi mid:ARat)(z z1:List ARange):anyL prg tab fn.ntmps (opsAt (focus [0,2,0,2,0,0,2,1,2,0,0,2,1,2,0,2,0] [.code (bodyOf fn)])) (allF (opsAt (focus [0,2,0,2,0,0,2,1,2,0,0,2,1,2,0,2,0] [.code (bodyOf fn)])) [0,1,2,6,7]) (downs (opsAt (focus [0,2,0,2,0,0,2,1,2,0,0,2,1,2,0,2,0] [.code (bodyOf fn)])) [0,1,2,6,7]) [.none,.none,.none,.none,.none,(.callX [(1,200000)] (some (0,59)) (.row 0 0 z.length 6) [(0,(.pure ((z:List ARange).map ARange.cells).flatten))]),.none,.none,.none,.none,(.callX [(59,200000)] (some (0,64)) (.row 0 0 z1.length 6) [(0,(.pure ((z1:List ARange).map ARange.cells).flatten))]),.none] (flS tab fn.ntmps (opsAt (focus [0,2,0,2,0,0,2,1,2,0,0,2,1,2,0,2,0] [.code (bodyOf fn)])) [0,1,2,6,7] ⟨[(0,(.row 1 0 0 6)),(1,(.pv (polyPV p))),(2,(.pv (lpv (lcell ARat.cells) l))),(8,(.ptr 8 0)),(9,(.ptr 9 0)),(12,(.ptr 12 0))],[(12,(.lit [(eB mid.neg),(.pv (wordsPV mid.num)),(.pv (wordsPV mid.den))])),(9,(.lit [(eB hi.neg),(.pv (wordsPV hi.num)),(.pv (wordsPV hi.den))])),(8,(.lit [(eB lo.neg),(.pv (wordsPV lo.num)),(.pv (wordsPV lo.den))])),(1,(.pure (([]:List ARange).map ARange.cells).flatten))]⟩)=anyR prg tab fn.ntmps (opsAt (focus [0,2,0,2,0,0,2,1,2,0,0,2,1,2,0,2,0] [.code (bodyOf fn)])) (allF (opsAt (focus [0,2,0,2,0,0,2,1,2,0,0,2,1,2,0,2,0] [.code (bodyOf fn)])) [0,1,2,6,7]) (downs (opsAt (focus [0,2,0,2,0,0,2,1,2,0,0,2,1,2,0,2,0] [.code (bodyOf fn)])) [0,1,2,6,7]) [.none,.none,.none,.none,.none,(.callX [(1,200000)] (some (0,59)) (.row 0 0 z.length 6) [(0,(.pure ((z:List ARange).map ARange.cells).flatten))]),.none,.none,.none,.none,(.callX [(59,200000)] (some (0,64)) (.row 0 0 z1.length 6) [(0,(.pure ((z1:List ARange).map ARange.cells).flatten))]),.none] (flS tab fn.ntmps (opsAt (focus [0,2,0,2,0,0,2,1,2,0,0,2,1,2,0,2,0] [.code (bodyOf fn)])) [0,1,2,6,7] ⟨[(0,(.row 1 0 0 6)),(1,(.pv (polyPV p))),(2,(.pv (lpv (lcell ARat.cells) l))),(8,(.ptr 8 0)),(9,(.ptr 9 0)),(12,(.ptr 12 0))],[(12,(.lit [(eB mid.neg),(.pv (wordsPV mid.num)),(.pv (wordsPV mid.den))])),(9,(.lit [(eB hi.neg),(.pv (wordsPV hi.num)),(.pv (wordsPV hi.den))])),(8,(.lit [(eB lo.neg),(.pv (wordsPV lo.num)),(.pv (wordsPV lo.den))])),(1,(.pure (([]:List ARange).map ARange.cells).flatten))]⟩):=by kernel_rfl
theorem e4(p:List ARat)(l:List (List ARat))(lo hi:ARat)(cha cha1:Int)(mid:ARat)(z z1:List ARange)(h1:Contract prg 49 [(lpv (lcell ARat.cells) l),lo.pv] (vI cha))(h2:Contract prg 49 [(lpv (lcell ARat.cells) l),hi.pv] (vI cha1))(h3:InI64 (cha-cha1))(h4:(cha-cha1)≠0)(h5:(cha-cha1)≠1)(h6:Contract prg 65 [(⟨lo,hi⟩:ARange).pv] mid.pv)(h7:ContractX prg 89 [.row 200000 0 0 6,.pv (polyPV p),.pv (lpv (lcell ARat.cells) l),.pv lo.pv,.pv mid.pv] [(200000,(.pure (([]:List ARange).map ARange.cells).flatten))] (.row 0 0 z.length 6) [(0,(.pure ((z:List ARange).map ARange.cells).flatten))])(h8:ContractX prg 89 [.row 200000 0 z.length 6,.pv (polyPV p),.pv (lpv (lcell ARat.cells) l),.pv mid.pv,.pv hi.pv] [(200000,(.pure ((z:List ARange).map ARange.cells).flatten))] (.row 0 0 z1.length 6) [(0,(.pure ((z1:List ARange).map ARange.cells).flatten))]):ContractX prg 89 [(.pv .nilS),(.pv (polyPV p)),(.pv (lpv (lcell ARat.cells) l)),(.pv lo.pv),(.pv hi.pv)] [] (.row 0 0 z1.length 6) [(0,(.pure ((z1:List ARange).map ARange.cells).flatten))] :=
 ContractX.ofL Tryz.func89 (by kernel_rfl) (LX.done mixed tabOk (n:=114) (ns:=[1,1,1,1,1,1,1,1,1,1,1,1,1]) (tr:=[.adopt 0 1 6,.reg [],dr 7 1 [.none,.none,(.pv (vI cha)),.none,.none,(.pv (vI cha1)),(iI (cha-cha1))],.reg [],.dec false,.reg [.none,.none,.none,.skip,.skip,.skip,.skip,(.dec false)],.auto,.reg [.none,.none,.none,(.pv mid.pv)],.keep [0,1,2,8,9,12],.any [0,1,2,6,7] [.none,.none,.none,.none,.none,(.callX [(1,200000)] (some (0,59)) (.row 0 0 z.length 6) [(0,(.pure ((z:List ARange).map ARange.cells).flatten))]),.none,.none,.none,.none,(.callX [(59,200000)] (some (0,64)) (.row 0 0 z1.length 6) [(0,(.pure ((z1:List ARange).map ARange.cells).flatten))]),.none],.ren 64 0,.drop [12,9,8],.ord [0]]) rfl (cj h1 (cj h2 (cj (bs_sub h3) (cj (deq_f h4) (cj (deq_f h5) (cj (deq_f h5) (cj (deq_f h5) (cj (deq_f h5) (cj (deq_f h5) (cj h6 (cj h7 (cj h8 (cj (e4_any0 p l lo hi mid z z1) True.intro))))))))))))) (by kernel_rfl))
end sturm_searchN
namespace sturm_searchG
@[reducible] noncomputable def fn:Func:=Tryz.f89
theorem e0(out:List ARange)(p:List ARat)(l:List (List ARat))(lo hi:ARat)(cha cha1:Int)(h1:Contract prg 49 [(lpv (lcell ARat.cells) l),lo.pv] (vI cha))(h2:Contract prg 49 [(lpv (lcell ARat.cells) l),hi.pv] (vI cha1))(h3:InI64 (cha-cha1))(h4:(cha-cha1)=0):ContractX prg 89 [(.row 200000 0 out.length 6),(.pv (polyPV p)),(.pv (lpv (lcell ARat.cells) l)),(.pv lo.pv),(.pv hi.pv)] [(200000,(.pure ((out:List ARange).map ARange.cells).flatten))] (.row 0 0 out.length 6) [(0,(.pure ((out:List ARange).map ARange.cells).flatten))] :=
 ContractX.ofL Tryz.func89 (by kernel_rfl) (LX.done mixed tabOk (n:=90) (ns:=[1,1,1,1]) (tr:=[.ren 200000 1,.reg [],dr 7 1 [.none,.none,(.pv (vI cha)),.none,.none,(.pv (vI cha1)),(iI (cha-cha1))],.reg [],.dec true,.reg [],.ren 1 0,.drop [9,8],.ord [0]]) rfl (cj h1 (cj h2 (cj (bs_sub h3) (cj (deq_t h4) True.intro)))) (by kernel_rfl))
theorem e1(out:List ARange)(p:List ARat)(l:List (List ARat))(lo hi:ARat)(cha cha1 val val1:Int)(poi:ARange)(h1:Contract prg 49 [(lpv (lcell ARat.cells) l),lo.pv] (vI cha))(h2:Contract prg 49 [(lpv (lcell ARat.cells) l),hi.pv] (vI cha1))(h3:InI64 (cha-cha1))(h4:(cha-cha1)≠0)(h5:(cha-cha1)=1)(h6:Contract prg 64 [(polyPV p),lo.pv] (vI val))(h7:val≠0)(h8:Contract prg 64 [(polyPV p),hi.pv] (vI val1))(h9:val1=0)(h10:Contract prg 66 [hi.pv] poi.pv)(h11:((out++[poi]):List ARange).length*112≤140737488355328):ContractX prg 89 [(.row 200000 0 out.length 6),(.pv (polyPV p)),(.pv (lpv (lcell ARat.cells) l)),(.pv lo.pv),(.pv hi.pv)] [(200000,(.pure ((out:List ARange).map ARange.cells).flatten))] (.row 0 0 ((out++[poi]).length) 6) [(0,(.pure (((out++[poi]):List ARange).map ARange.cells).flatten))] :=
 ContractX.ofL Tryz.func89 (by kernel_rfl) (LX.done mixed tabOk (n:=117) (ns:=[1,1,1,1,1,1,1,1,1,1,1,1,1,1,6]) (tr:=[.ren 200000 1,.reg [],dr 7 1 [.none,.none,(.pv (vI cha)),.none,.none,(.pv (vI cha1)),(iI (cha-cha1))],.reg [],.dec false,.reg [.none,.none,.none,.none,.none,(.pv (vI val)),.none,(.dec true)],.dec true,.reg [.none,.none,(.pv (vI val1))],.dec true,.reg [.none,.none,(.pv poi.pv),.none,(.app ((out++[poi]):List ARange).length (((out++[poi]):List ARange).map ARange.cells).flatten)],.ren 39 0,.drop [38,9,8],.ord [0]]) rfl (cj h1 (cj h2 (cj (bs_sub h3) (cj (deq_f h4) (cj (deq_t h5) (cj (deq_t h5) (cj (deq_t h5) (cj h6 (cj (deq_t h5) (cj (deq_t h5) (cj (dne_t h7) (cj h8 (cj (deq_t h9) (cj h10 (cj (o_appR sz_ARange (out:List ARange) ([poi]:List ARange) 112 (Eq.refl (out:List ARange).length) (Eq.refl ([poi]:List ARange).length) h11 rfl) True.intro))))))))))))))) (by kernel_rfl))
theorem e2(out:List ARange)(p:List ARat)(l:List (List ARat))(lo hi:ARat)(cha cha1 val val1:Int)(add add1:ARat)(h1:Contract prg 49 [(lpv (lcell ARat.cells) l),lo.pv] (vI cha))(h2:Contract prg 49 [(lpv (lcell ARat.cells) l),hi.pv] (vI cha1))(h3:InI64 (cha-cha1))(h4:(cha-cha1)≠0)(h5:(cha-cha1)=1)(h6:Contract prg 64 [(polyPV p),lo.pv] (vI val))(h7:val≠0)(h8:Contract prg 64 [(polyPV p),hi.pv] (vI val1))(h9:val1≠0)(h10:Contract prg 29 [lo.pv,(⟨false,[],[]⟩:ARat).pv] add.pv)(h11:Contract prg 29 [hi.pv,(⟨false,[],[]⟩:ARat).pv] add1.pv)(h12:((out++[(⟨add,add1⟩:ARange)]):List ARange).length*112≤140737488355328):ContractX prg 89 [(.row 200000 0 out.length 6),(.pv (polyPV p)),(.pv (lpv (lcell ARat.cells) l)),(.pv lo.pv),(.pv hi.pv)] [(200000,(.pure ((out:List ARange).map ARange.cells).flatten))] (.row 0 0 ((out++[(⟨add,add1⟩:ARange)]).length) 6) [(0,(.pure (((out++[(⟨add,add1⟩:ARange)]):List ARange).map ARange.cells).flatten))] :=
 ContractX.ofL Tryz.func89 (by kernel_rfl) (LX.done mixed tabOk (n:=120) (ns:=[1,1,1,1,1,1,1,1,1,1,1,1,1,1,1,6]) (tr:=[.ren 200000 1,.reg [],dr 7 1 [.none,.none,(.pv (vI cha)),.none,.none,(.pv (vI cha1)),(iI (cha-cha1))],.reg [],.dec false,.reg [.none,.none,.none,.none,.none,(.pv (vI val)),.none,(.dec true)],.dec true,.reg [.none,.none,(.pv (vI val1))],.dec false,dr 9 2 [.none,.none,.none,(.pv add.pv),.none,.none,(.pv add1.pv),.none,.none,(.app ((out++[(⟨add,add1⟩:ARange)]):List ARange).length (((out++[(⟨add,add1⟩:ARange)]):List ARange).map ARange.cells).flatten)],.ren 49 0,.drop [48,9,8],.ord [0]]) rfl (cj h1 (cj h2 (cj (bs_sub h3) (cj (deq_f h4) (cj (deq_t h5) (cj (deq_t h5) (cj (deq_t h5) (cj h6 (cj (deq_t h5) (cj (deq_t h5) (cj (dne_t h7) (cj h8 (cj (deq_f h9) (cj h10 (cj h11 (cj (o_appR sz_ARange (out:List ARange) ([(⟨add,add1⟩:ARange)]:List ARange) 112 (Eq.refl (out:List ARange).length) (Eq.refl ([(⟨add,add1⟩:ARange)]:List ARange).length) h12 rfl) True.intro)))))))))))))))) (by kernel_rfl))
theorem e3_any0(out:List ARange)(p:List ARat)(l:List (List ARat))(lo hi mid:ARat)(z z1:List ARange):anyL prg tab fn.ntmps (opsAt (focus [0,2,0,2,0,0,2,1,2,0,0,2,1,2,0,2,0] [.code (bodyOf fn)])) (allF (opsAt (focus [0,2,0,2,0,0,2,1,2,0,0,2,1,2,0,2,0] [.code (bodyOf fn)])) [0,1,2,6,7]) (downs (opsAt (focus [0,2,0,2,0,0,2,1,2,0,0,2,1,2,0,2,0] [.code (bodyOf fn)])) [0,1,2,6,7]) [.none,.none,.none,.none,.none,(.callX [(1,200000)] (some (0,59)) (.row 0 0 z.length 6) [(0,(.pure ((z:List ARange).map ARange.cells).flatten))]),.none,.none,.none,.none,(.callX [(59,200000)] (some (0,64)) (.row 0 0 z1.length 6) [(0,(.pure ((z1:List ARange).map ARange.cells).flatten))]),.none] (flS tab fn.ntmps (opsAt (focus [0,2,0,2,0,0,2,1,2,0,0,2,1,2,0,2,0] [.code (bodyOf fn)])) [0,1,2,6,7] ⟨[(0,(.row 1 0 out.length 6)),(1,(.pv (polyPV p))),(2,(.pv (lpv (lcell ARat.cells) l))),(8,(.ptr 8 0)),(9,(.ptr 9 0)),(12,(.ptr 12 0))],[(12,(.lit [(eB mid.neg),(.pv (wordsPV mid.num)),(.pv (wordsPV mid.den))])),(9,(.lit [(eB hi.neg),(.pv (wordsPV hi.num)),(.pv (wordsPV hi.den))])),(8,(.lit [(eB lo.neg),(.pv (wordsPV lo.num)),(.pv (wordsPV lo.den))])),(1,(.pure ((out:List ARange).map ARange.cells).flatten))]⟩)=anyR prg tab fn.ntmps (opsAt (focus [0,2,0,2,0,0,2,1,2,0,0,2,1,2,0,2,0] [.code (bodyOf fn)])) (allF (opsAt (focus [0,2,0,2,0,0,2,1,2,0,0,2,1,2,0,2,0] [.code (bodyOf fn)])) [0,1,2,6,7]) (downs (opsAt (focus [0,2,0,2,0,0,2,1,2,0,0,2,1,2,0,2,0] [.code (bodyOf fn)])) [0,1,2,6,7]) [.none,.none,.none,.none,.none,(.callX [(1,200000)] (some (0,59)) (.row 0 0 z.length 6) [(0,(.pure ((z:List ARange).map ARange.cells).flatten))]),.none,.none,.none,.none,(.callX [(59,200000)] (some (0,64)) (.row 0 0 z1.length 6) [(0,(.pure ((z1:List ARange).map ARange.cells).flatten))]),.none] (flS tab fn.ntmps (opsAt (focus [0,2,0,2,0,0,2,1,2,0,0,2,1,2,0,2,0] [.code (bodyOf fn)])) [0,1,2,6,7] ⟨[(0,(.row 1 0 out.length 6)),(1,(.pv (polyPV p))),(2,(.pv (lpv (lcell ARat.cells) l))),(8,(.ptr 8 0)),(9,(.ptr 9 0)),(12,(.ptr 12 0))],[(12,(.lit [(eB mid.neg),(.pv (wordsPV mid.num)),(.pv (wordsPV mid.den))])),(9,(.lit [(eB hi.neg),(.pv (wordsPV hi.num)),(.pv (wordsPV hi.den))])),(8,(.lit [(eB lo.neg),(.pv (wordsPV lo.num)),(.pv (wordsPV lo.den))])),(1,(.pure ((out:List ARange).map ARange.cells).flatten))]⟩):=by kernel_rfl
theorem e3(out:List ARange)(p:List ARat)(l:List (List ARat))(lo hi:ARat)(cha cha1 val:Int)(mid:ARat)(z z1:List ARange)(h1:Contract prg 49 [(lpv (lcell ARat.cells) l),lo.pv] (vI cha))(h2:Contract prg 49 [(lpv (lcell ARat.cells) l),hi.pv] (vI cha1))(h3:InI64 (cha-cha1))(h4:(cha-cha1)≠0)(h5:(cha-cha1)=1)(h6:Contract prg 64 [(polyPV p),lo.pv] (vI val))(h7:val=0)(h8:Contract prg 65 [(⟨lo,hi⟩:ARange).pv] mid.pv)(h9:ContractX prg 89 [.row 200000 0 out.length 6,.pv (polyPV p),.pv (lpv (lcell ARat.cells) l),.pv lo.pv,.pv mid.pv] [(200000,(.pure ((out:List ARange).map ARange.cells).flatten))] (.row 0 0 z.length 6) [(0,(.pure ((z:List ARange).map ARange.cells).flatten))])(h10:ContractX prg 89 [.row 200000 0 z.length 6,.pv (polyPV p),.pv (lpv (lcell ARat.cells) l),.pv mid.pv,.pv hi.pv] [(200000,(.pure ((z:List ARange).map ARange.cells).flatten))] (.row 0 0 z1.length 6) [(0,(.pure ((z1:List ARange).map ARange.cells).flatten))]):ContractX prg 89 [(.row 200000 0 out.length 6),(.pv (polyPV p)),(.pv (lpv (lcell ARat.cells) l)),(.pv lo.pv),(.pv hi.pv)] [(200000,(.pure ((out:List ARange).map ARange.cells).flatten))] (.row 0 0 z1.length 6) [(0,(.pure ((z1:List ARange).map ARange.cells).flatten))] :=
 ContractX.ofL Tryz.func89 (by kernel_rfl) (LX.done mixed tabOk (n:=114) (ns:=[1,1,1,1,1,1,1,1,1,1,1,1,1,1,1]) (tr:=[.ren 200000 1,.reg [],dr 7 1 [.none,.none,(.pv (vI cha)),.none,.none,(.pv (vI cha1)),(iI (cha-cha1))],.reg [],.dec false,.reg [.none,.none,.none,.none,.none,(.pv (vI val)),.none,(.dec true)],.dec false,.reg [.none,.none,.none,(.pv mid.pv)],.keep [0,1,2,8,9,12],.any [0,1,2,6,7] [.none,.none,.none,.none,.none,(.callX [(1,200000)] (some (0,59)) (.row 0 0 z.length 6) [(0,(.pure ((z:List ARange).map ARange.cells).flatten))]),.none,.none,.none,.none,(.callX [(59,200000)] (some (0,64)) (.row 0 0 z1.length 6) [(0,(.pure ((z1:List ARange).map ARange.cells).flatten))]),.none],.ren 64 0,.drop [12,9,8],.ord [0]]) rfl (cj h1 (cj h2 (cj (bs_sub h3) (cj (deq_f h4) (cj (deq_t h5) (cj (deq_t h5) (cj (deq_t h5) (cj h6 (cj (deq_t h5) (cj (deq_t h5) (cj (dne_f h7) (cj h8 (cj h9 (cj h10 (cj (e3_any0 out p l lo hi mid z z1) True.intro))))))))))))))) (by kernel_rfl))
theorem e4_any0(out:List ARange)(p:List ARat)(l:List (List ARat))(lo hi mid:ARat)(z z1:List ARange):anyL prg tab fn.ntmps (opsAt (focus [0,2,0,2,0,0,2,1,2,0,0,2,1,2,0,2,0] [.code (bodyOf fn)])) (allF (opsAt (focus [0,2,0,2,0,0,2,1,2,0,0,2,1,2,0,2,0] [.code (bodyOf fn)])) [0,1,2,6,7]) (downs (opsAt (focus [0,2,0,2,0,0,2,1,2,0,0,2,1,2,0,2,0] [.code (bodyOf fn)])) [0,1,2,6,7]) [.none,.none,.none,.none,.none,(.callX [(1,200000)] (some (0,59)) (.row 0 0 z.length 6) [(0,(.pure ((z:List ARange).map ARange.cells).flatten))]),.none,.none,.none,.none,(.callX [(59,200000)] (some (0,64)) (.row 0 0 z1.length 6) [(0,(.pure ((z1:List ARange).map ARange.cells).flatten))]),.none] (flS tab fn.ntmps (opsAt (focus [0,2,0,2,0,0,2,1,2,0,0,2,1,2,0,2,0] [.code (bodyOf fn)])) [0,1,2,6,7] ⟨[(0,(.row 1 0 out.length 6)),(1,(.pv (polyPV p))),(2,(.pv (lpv (lcell ARat.cells) l))),(8,(.ptr 8 0)),(9,(.ptr 9 0)),(12,(.ptr 12 0))],[(12,(.lit [(eB mid.neg),(.pv (wordsPV mid.num)),(.pv (wordsPV mid.den))])),(9,(.lit [(eB hi.neg),(.pv (wordsPV hi.num)),(.pv (wordsPV hi.den))])),(8,(.lit [(eB lo.neg),(.pv (wordsPV lo.num)),(.pv (wordsPV lo.den))])),(1,(.pure ((out:List ARange).map ARange.cells).flatten))]⟩)=anyR prg tab fn.ntmps (opsAt (focus [0,2,0,2,0,0,2,1,2,0,0,2,1,2,0,2,0] [.code (bodyOf fn)])) (allF (opsAt (focus [0,2,0,2,0,0,2,1,2,0,0,2,1,2,0,2,0] [.code (bodyOf fn)])) [0,1,2,6,7]) (downs (opsAt (focus [0,2,0,2,0,0,2,1,2,0,0,2,1,2,0,2,0] [.code (bodyOf fn)])) [0,1,2,6,7]) [.none,.none,.none,.none,.none,(.callX [(1,200000)] (some (0,59)) (.row 0 0 z.length 6) [(0,(.pure ((z:List ARange).map ARange.cells).flatten))]),.none,.none,.none,.none,(.callX [(59,200000)] (some (0,64)) (.row 0 0 z1.length 6) [(0,(.pure ((z1:List ARange).map ARange.cells).flatten))]),.none] (flS tab fn.ntmps (opsAt (focus [0,2,0,2,0,0,2,1,2,0,0,2,1,2,0,2,0] [.code (bodyOf fn)])) [0,1,2,6,7] ⟨[(0,(.row 1 0 out.length 6)),(1,(.pv (polyPV p))),(2,(.pv (lpv (lcell ARat.cells) l))),(8,(.ptr 8 0)),(9,(.ptr 9 0)),(12,(.ptr 12 0))],[(12,(.lit [(eB mid.neg),(.pv (wordsPV mid.num)),(.pv (wordsPV mid.den))])),(9,(.lit [(eB hi.neg),(.pv (wordsPV hi.num)),(.pv (wordsPV hi.den))])),(8,(.lit [(eB lo.neg),(.pv (wordsPV lo.num)),(.pv (wordsPV lo.den))])),(1,(.pure ((out:List ARange).map ARange.cells).flatten))]⟩):=by kernel_rfl
theorem e4(out:List ARange)(p:List ARat)(l:List (List ARat))(lo hi:ARat)(cha cha1:Int)(mid:ARat)(z z1:List ARange)(h1:Contract prg 49 [(lpv (lcell ARat.cells) l),lo.pv] (vI cha))(h2:Contract prg 49 [(lpv (lcell ARat.cells) l),hi.pv] (vI cha1))(h3:InI64 (cha-cha1))(h4:(cha-cha1)≠0)(h5:(cha-cha1)≠1)(h6:Contract prg 65 [(⟨lo,hi⟩:ARange).pv] mid.pv)(h7:ContractX prg 89 [.row 200000 0 out.length 6,.pv (polyPV p),.pv (lpv (lcell ARat.cells) l),.pv lo.pv,.pv mid.pv] [(200000,(.pure ((out:List ARange).map ARange.cells).flatten))] (.row 0 0 z.length 6) [(0,(.pure ((z:List ARange).map ARange.cells).flatten))])(h8:ContractX prg 89 [.row 200000 0 z.length 6,.pv (polyPV p),.pv (lpv (lcell ARat.cells) l),.pv mid.pv,.pv hi.pv] [(200000,(.pure ((z:List ARange).map ARange.cells).flatten))] (.row 0 0 z1.length 6) [(0,(.pure ((z1:List ARange).map ARange.cells).flatten))]):ContractX prg 89 [(.row 200000 0 out.length 6),(.pv (polyPV p)),(.pv (lpv (lcell ARat.cells) l)),(.pv lo.pv),(.pv hi.pv)] [(200000,(.pure ((out:List ARange).map ARange.cells).flatten))] (.row 0 0 z1.length 6) [(0,(.pure ((z1:List ARange).map ARange.cells).flatten))] :=
 ContractX.ofL Tryz.func89 (by kernel_rfl) (LX.done mixed tabOk (n:=114) (ns:=[1,1,1,1,1,1,1,1,1,1,1,1,1]) (tr:=[.ren 200000 1,.reg [],dr 7 1 [.none,.none,(.pv (vI cha)),.none,.none,(.pv (vI cha1)),(iI (cha-cha1))],.reg [],.dec false,.reg [.none,.none,.none,.skip,.skip,.skip,.skip,(.dec false)],.auto,.reg [.none,.none,.none,(.pv mid.pv)],.keep [0,1,2,8,9,12],.any [0,1,2,6,7] [.none,.none,.none,.none,.none,(.callX [(1,200000)] (some (0,59)) (.row 0 0 z.length 6) [(0,(.pure ((z:List ARange).map ARange.cells).flatten))]),.none,.none,.none,.none,(.callX [(59,200000)] (some (0,64)) (.row 0 0 z1.length 6) [(0,(.pure ((z1:List ARange).map ARange.cells).flatten))]),.none],.ren 64 0,.drop [12,9,8],.ord [0]]) rfl (cj h1 (cj h2 (cj (bs_sub h3) (cj (deq_f h4) (cj (deq_f h5) (cj (deq_f h5) (cj (deq_f h5) (cj (deq_f h5) (cj (deq_f h5) (cj h6 (cj h7 (cj h8 (cj (e4_any0 out p l lo hi mid z z1) True.intro))))))))))))) (by kernel_rfl))
end sturm_searchG
namespace linkworkref06_search
theorem e0(l:List (List ARat))(lo hi:ARat)(cha cha1:Int)(h1:Contract prg 108 [(lpv (lcell ARat.cells) l),lo.pv] (vI cha))(h2:Contract prg 108 [(lpv (lcell ARat.cells) l),hi.pv] (vI cha1))(h3:InI64 (cha-cha1))(h4:(cha-cha1)=0):Contract prg 90 [(lpv (lcell ARat.cells) l),lo.pv,hi.pv] (lpv ARange.cells []) :=
 Contract.ofL Tryz.func90 (by kernel_rfl) (L.done mixed tabOk (n:=90) (ns:=[1,1,1,1]) (tr:=[.reg [],dr 7 1 [.none,.none,(.pv (vI cha)),.none,.none,(.pv (vI cha1)),(iI (cha-cha1))],.reg [],.dec true,.reg []]) (cj h1 (cj h2 (cj (bs_sub h3) (cj (deq_t h4) True.intro)))) (by kernel_rfl))
theorem e1(l:List (List ARat))(lo hi:ARat)(cha cha1:Int)(v:List ARat)(atV:ARat)(sig:Int)(atV1:ARat)(sig1:Int)(h1:Contract prg 108 [(lpv (lcell ARat.cells) l),lo.pv] (vI cha))(h2:Contract prg 108 [(lpv (lcell ARat.cells) l),hi.pv] (vI cha1))(h3:InI64 (cha-cha1))(h4:(cha-cha1)≠0)(h5:(cha-cha1)=1)(h6:l[0]? = some v)(h7:Contract prg 72 [(polyPV v),lo.pv] atV.pv)(h8:Contract prg 71 [atV.pv] (vI sig))(h9:sig≠0)(h10:Contract prg 72 [(polyPV v),hi.pv] atV1.pv)(h11:Contract prg 71 [atV1.pv] (vI sig1))(h12:sig1=0):Contract prg 90 [(lpv (lcell ARat.cells) l),lo.pv,hi.pv] (lpv ARange.cells [(⟨hi,hi⟩:ARange)]) :=
 Contract.ofL Tryz.func90 (by kernel_rfl) (L.done mixed tabOk (n:=117) (ns:=[1,1,1,1,1,1,3,1,1,1,1,1,1,1,1,1,3,1,1,1,3]) (tr:=[.reg [],dr 7 1 [.none,.none,(.pv (vI cha)),.none,.none,(.pv (vI cha1)),(iI (cha-cha1))],.reg [],.dec false,dr 11 0 [.none,.none,.none,.none,(.row 0 ((lcell ARat.cells) v)),.none,.none,(.pv atV.pv),(.pv (vI sig)),.none,(.dec true)],.dec true,dr 7 0 [.none,(.row 0 ((lcell ARat.cells) v)),.none,.none,(.pv atV1.pv),(.pv (vI sig1))],.dec true,.reg [],.frzT 6 (([(⟨hi,hi⟩:ARange)]:List ARange).map ARange.cells)]) (cj h1 (cj h2 (cj (bs_sub h3) (cj (deq_f h4) (cj (deq_t h5) (cj (deq_t h5) (cj (o_at (lcell ARat.cells) (Eq.refl (0:Int)) h6) (cj (deq_t h5) (cj (deq_t h5) (cj (deq_t h5) (cj h7 (cj (deq_t h5) (cj h8 (cj (deq_t h5) (cj (deq_t h5) (cj (dne_t h9) (cj (o_at (lcell ARat.cells) (Eq.refl (0:Int)) h6) (cj h10 (cj h11 (cj (deq_t h12) (cj (o_frz sz_ARange ([(⟨hi,hi⟩:ARange)]:List ARange) (Eq.refl ([(⟨hi,hi⟩:ARange)]:List ARange).length)) True.intro))))))))))))))))))))) (by kernel_rfl))
theorem e2(l:List (List ARat))(lo hi:ARat)(cha cha1:Int)(v:List ARat)(atV:ARat)(sig:Int)(atV1:ARat)(sig1:Int)(h1:Contract prg 108 [(lpv (lcell ARat.cells) l),lo.pv] (vI cha))(h2:Contract prg 108 [(lpv (lcell ARat.cells) l),hi.pv] (vI cha1))(h3:InI64 (cha-cha1))(h4:(cha-cha1)≠0)(h5:(cha-cha1)=1)(h6:l[0]? = some v)(h7:Contract prg 72 [(polyPV v),lo.pv] atV.pv)(h8:Contract prg 71 [atV.pv] (vI sig))(h9:sig≠0)(h10:Contract prg 72 [(polyPV v),hi.pv] atV1.pv)(h11:Contract prg 71 [atV1.pv] (vI sig1))(h12:sig1≠0):Contract prg 90 [(lpv (lcell ARat.cells) l),lo.pv,hi.pv] (lpv ARange.cells [(⟨lo,hi⟩:ARange)]) :=
 Contract.ofL Tryz.func90 (by kernel_rfl) (L.done mixed tabOk (n:=120) (ns:=[1,1,1,1,1,1,3,1,1,1,1,1,1,1,1,1,3,1,1,1,3]) (tr:=[.reg [],dr 7 1 [.none,.none,(.pv (vI cha)),.none,.none,(.pv (vI cha1)),(iI (cha-cha1))],.reg [],.dec false,dr 11 0 [.none,.none,.none,.none,(.row 0 ((lcell ARat.cells) v)),.none,.none,(.pv atV.pv),(.pv (vI sig)),.none,(.dec true)],.dec true,dr 7 0 [.none,(.row 0 ((lcell ARat.cells) v)),.none,.none,(.pv atV1.pv),(.pv (vI sig1))],.dec false,.reg [],.frzT 6 (([(⟨lo,hi⟩:ARange)]:List ARange).map ARange.cells)]) (cj h1 (cj h2 (cj (bs_sub h3) (cj (deq_f h4) (cj (deq_t h5) (cj (deq_t h5) (cj (o_at (lcell ARat.cells) (Eq.refl (0:Int)) h6) (cj (deq_t h5) (cj (deq_t h5) (cj (deq_t h5) (cj h7 (cj (deq_t h5) (cj h8 (cj (deq_t h5) (cj (deq_t h5) (cj (dne_t h9) (cj (o_at (lcell ARat.cells) (Eq.refl (0:Int)) h6) (cj h10 (cj h11 (cj (deq_f h12) (cj (o_frz sz_ARange ([(⟨lo,hi⟩:ARange)]:List ARange) (Eq.refl ([(⟨lo,hi⟩:ARange)]:List ARange).length)) True.intro))))))))))))))))))))) (by kernel_rfl))
theorem e3(l:List (List ARat))(lo hi:ARat)(cha cha1:Int)(v:List ARat)(atV:ARat)(sig:Int)(mid:ARat)(z:List ARange)(n:Nat)(sea:List ARange)(h1:Contract prg 108 [(lpv (lcell ARat.cells) l),lo.pv] (vI cha))(h2:Contract prg 108 [(lpv (lcell ARat.cells) l),hi.pv] (vI cha1))(h3:InI64 (cha-cha1))(h4:(cha-cha1)≠0)(h5:(cha-cha1)=1)(h6:l[0]? = some v)(h7:Contract prg 72 [(polyPV v),lo.pv] atV.pv)(h8:Contract prg 71 [atV.pv] (vI sig))(h9:sig=0)(h10:Contract prg 74 [(⟨lo,hi⟩:ARange).pv] mid.pv)(h11:ContractX prg 90 [.pv (lpv (lcell ARat.cells) l),.pv lo.pv,.pv mid.pv] [] (.row 0 0 n 6) [(0,(.pure ((z:List ARange).map ARange.cells).flatten))])(h12:Contract prg 90 [(lpv (lcell ARat.cells) l),mid.pv,hi.pv] (lpv ARange.cells sea))(h13:z.length=n)(h14:((z++sea):List ARange).length*112≤140737488355328):Contract prg 90 [(lpv (lcell ARat.cells) l),lo.pv,hi.pv] (lpv ARange.cells (z++sea)) :=
 Contract.ofL Tryz.func90 (by kernel_rfl) (L.done mixed tabOk (n:=114) (ns:=[1,1,1,1,1,1,3,1,1,1,1,1,1,1,1,1,1,1,1,6,3]) (tr:=[.reg [],dr 7 1 [.none,.none,(.pv (vI cha)),.none,.none,(.pv (vI cha1)),(iI (cha-cha1))],.reg [],.dec false,dr 11 0 [.none,.none,.none,.none,(.row 0 ((lcell ARat.cells) v)),.none,.none,(.pv atV.pv),(.pv (vI sig)),.none,(.dec true)],.dec false,.reg [.none,.none,.none,(.pv mid.pv)],dr 8 2 [.none,.none,.none,(.callX [] (some (0,51)) (.row 0 0 n 6) [(0,(.pure ((z:List ARange).map ARange.cells).flatten))]),.none,.none,.none,(.pv (lpv ARange.cells sea)),(.app ((z++sea):List ARange).length (((z++sea):List ARange).map ARange.cells).flatten)],.frzT 6 (((z++sea):List ARange).map ARange.cells)]) (cj h1 (cj h2 (cj (bs_sub h3) (cj (deq_f h4) (cj (deq_t h5) (cj (deq_t h5) (cj (o_at (lcell ARat.cells) (Eq.refl (0:Int)) h6) (cj (deq_t h5) (cj (deq_t h5) (cj (deq_t h5) (cj h7 (cj (deq_t h5) (cj h8 (cj (deq_t h5) (cj (deq_t h5) (cj (dne_f h9) (cj h10 (cj h11 (cj h12 (cj (o_appL sz_ARange (z:List ARange) (sea:List ARange) 112 h13 h14 rfl) (cj (o_frz sz_ARange ((z++sea):List ARange) (Eq.refl ((z++sea):List ARange).length)) True.intro))))))))))))))))))))) (by kernel_rfl))
theorem e4(l:List (List ARat))(lo hi:ARat)(cha cha1:Int)(mid:ARat)(z:List ARange)(n:Nat)(sea:List ARange)(h1:Contract prg 108 [(lpv (lcell ARat.cells) l),lo.pv] (vI cha))(h2:Contract prg 108 [(lpv (lcell ARat.cells) l),hi.pv] (vI cha1))(h3:InI64 (cha-cha1))(h4:(cha-cha1)≠0)(h5:(cha-cha1)≠1)(h6:Contract prg 74 [(⟨lo,hi⟩:ARange).pv] mid.pv)(h7:ContractX prg 90 [.pv (lpv (lcell ARat.cells) l),.pv lo.pv,.pv mid.pv] [] (.row 0 0 n 6) [(0,(.pure ((z:List ARange).map ARange.cells).flatten))])(h8:Contract prg 90 [(lpv (lcell ARat.cells) l),mid.pv,hi.pv] (lpv ARange.cells sea))(h9:z.length=n)(h10:((z++sea):List ARange).length*112≤140737488355328):Contract prg 90 [(lpv (lcell ARat.cells) l),lo.pv,hi.pv] (lpv ARange.cells (z++sea)) :=
 Contract.ofL Tryz.func90 (by kernel_rfl) (L.done mixed tabOk (n:=114) (ns:=[1,1,1,1,1,1,1,1,1,1,1,1,1,1,1,6,3]) (tr:=[.reg [],dr 7 1 [.none,.none,(.pv (vI cha)),.none,.none,(.pv (vI cha1)),(iI (cha-cha1))],.reg [],.dec false,dr 11 0 [.none,.none,.none,.skip,.skip,.skip,.skip,.skip,.skip,.skip,(.dec false)],.auto,.reg [.none,.none,.none,(.pv mid.pv)],dr 8 2 [.none,.none,.none,(.callX [] (some (0,51)) (.row 0 0 n 6) [(0,(.pure ((z:List ARange).map ARange.cells).flatten))]),.none,.none,.none,(.pv (lpv ARange.cells sea)),(.app ((z++sea):List ARange).length (((z++sea):List ARange).map ARange.cells).flatten)],.frzT 6 (((z++sea):List ARange).map ARange.cells)]) (cj h1 (cj h2 (cj (bs_sub h3) (cj (deq_f h4) (cj (deq_f h5) (cj (deq_f h5) (cj (deq_f h5) (cj (deq_f h5) (cj (deq_f h5) (cj (deq_f h5) (cj (deq_f h5) (cj (deq_f h5) (cj h6 (cj h7 (cj h8 (cj (o_appL sz_ARange (z:List ARange) (sea:List ARange) 112 h9 h10 rfl) (cj (o_frz sz_ARange ((z++sea):List ARange) (Eq.refl ((z++sea):List ARange).length)) True.intro))))))))))))))))) (by kernel_rfl))
end linkworkref06_search
namespace linkworkref06_searchX
theorem e0(l:List (List ARat))(lo hi:ARat)(cha cha1:Int)(h1:Contract prg 108 [(lpv (lcell ARat.cells) l),lo.pv] (vI cha))(h2:Contract prg 108 [(lpv (lcell ARat.cells) l),hi.pv] (vI cha1))(h3:InI64 (cha-cha1))(h4:(cha-cha1)=0):ContractX prg 90 [(.pv (lpv (lcell ARat.cells) l)),(.pv lo.pv),(.pv hi.pv)] [] (.row 0 0 0 6) [(0,(.pure (([]:List ARange).map ARange.cells).flatten))] :=
 ContractX.ofL Tryz.func90 (by kernel_rfl) (LX.done mixed tabOk (n:=90) (ns:=[1,1,1,1]) (tr:=[.reg [],dr 7 1 [.none,.none,(.pv (vI cha)),.none,.none,(.pv (vI cha1)),(iI (cha-cha1))],.reg [],.dec true,.reg [.nil],.adopt 6 0 6,.drop [5,4],.ord [0]]) rfl (cj h1 (cj h2 (cj (bs_sub h3) (cj (deq_t h4) True.intro)))) (by kernel_rfl))
theorem e1(l:List (List ARat))(lo hi:ARat)(cha cha1:Int)(v:List ARat)(atV:ARat)(sig:Int)(atV1:ARat)(sig1:Int)(h1:Contract prg 108 [(lpv (lcell ARat.cells) l),lo.pv] (vI cha))(h2:Contract prg 108 [(lpv (lcell ARat.cells) l),hi.pv] (vI cha1))(h3:InI64 (cha-cha1))(h4:(cha-cha1)≠0)(h5:(cha-cha1)=1)(h6:l[0]? = some v)(h7:Contract prg 72 [(polyPV v),lo.pv] atV.pv)(h8:Contract prg 71 [atV.pv] (vI sig))(h9:sig≠0)(h10:Contract prg 72 [(polyPV v),hi.pv] atV1.pv)(h11:Contract prg 71 [atV1.pv] (vI sig1))(h12:sig1=0):ContractX prg 90 [(.pv (lpv (lcell ARat.cells) l)),(.pv lo.pv),(.pv hi.pv)] [] (.row 0 0 1 6) [(0,(.pure (([(⟨hi,hi⟩:ARange)]:List ARange).map ARange.cells).flatten))] :=
 ContractX.ofL Tryz.func90 (by kernel_rfl) (LX.done mixed tabOk (n:=117) (ns:=[1,1,1,1,1,1,3,1,1,1,1,1,1,1,1,1,3,1,1,1]) (tr:=[.reg [],dr 7 1 [.none,.none,(.pv (vI cha)),.none,.none,(.pv (vI cha1)),(iI (cha-cha1))],.reg [],.dec false,dr 11 0 [.none,.none,.none,.none,(.row 0 ((lcell ARat.cells) v)),.none,.none,(.pv atV.pv),(.pv (vI sig)),.none,(.dec true)],.dec true,dr 7 0 [.none,(.row 0 ((lcell ARat.cells) v)),.none,.none,(.pv atV1.pv),(.pv (vI sig1))],.dec true,.reg [],.ren 39 0,.drop [5,4],.ord [0]]) rfl (cj h1 (cj h2 (cj (bs_sub h3) (cj (deq_f h4) (cj (deq_t h5) (cj (deq_t h5) (cj (o_at (lcell ARat.cells) (Eq.refl (0:Int)) h6) (cj (deq_t h5) (cj (deq_t h5) (cj (deq_t h5) (cj h7 (cj (deq_t h5) (cj h8 (cj (deq_t h5) (cj (deq_t h5) (cj (dne_t h9) (cj (o_at (lcell ARat.cells) (Eq.refl (0:Int)) h6) (cj h10 (cj h11 (cj (deq_t h12) True.intro)))))))))))))))))))) (by kernel_rfl))
theorem e2(l:List (List ARat))(lo hi:ARat)(cha cha1:Int)(v:List ARat)(atV:ARat)(sig:Int)(atV1:ARat)(sig1:Int)(h1:Contract prg 108 [(lpv (lcell ARat.cells) l),lo.pv] (vI cha))(h2:Contract prg 108 [(lpv (lcell ARat.cells) l),hi.pv] (vI cha1))(h3:InI64 (cha-cha1))(h4:(cha-cha1)≠0)(h5:(cha-cha1)=1)(h6:l[0]? = some v)(h7:Contract prg 72 [(polyPV v),lo.pv] atV.pv)(h8:Contract prg 71 [atV.pv] (vI sig))(h9:sig≠0)(h10:Contract prg 72 [(polyPV v),hi.pv] atV1.pv)(h11:Contract prg 71 [atV1.pv] (vI sig1))(h12:sig1≠0):ContractX prg 90 [(.pv (lpv (lcell ARat.cells) l)),(.pv lo.pv),(.pv hi.pv)] [] (.row 0 0 1 6) [(0,(.pure (([(⟨lo,hi⟩:ARange)]:List ARange).map ARange.cells).flatten))] :=
 ContractX.ofL Tryz.func90 (by kernel_rfl) (LX.done mixed tabOk (n:=120) (ns:=[1,1,1,1,1,1,3,1,1,1,1,1,1,1,1,1,3,1,1,1]) (tr:=[.reg [],dr 7 1 [.none,.none,(.pv (vI cha)),.none,.none,(.pv (vI cha1)),(iI (cha-cha1))],.reg [],.dec false,dr 11 0 [.none,.none,.none,.none,(.row 0 ((lcell ARat.cells) v)),.none,.none,(.pv atV.pv),(.pv (vI sig)),.none,(.dec true)],.dec true,dr 7 0 [.none,(.row 0 ((lcell ARat.cells) v)),.none,.none,(.pv atV1.pv),(.pv (vI sig1))],.dec false,.reg [],.ren 43 0,.drop [5,4],.ord [0]]) rfl (cj h1 (cj h2 (cj (bs_sub h3) (cj (deq_f h4) (cj (deq_t h5) (cj (deq_t h5) (cj (o_at (lcell ARat.cells) (Eq.refl (0:Int)) h6) (cj (deq_t h5) (cj (deq_t h5) (cj (deq_t h5) (cj h7 (cj (deq_t h5) (cj h8 (cj (deq_t h5) (cj (deq_t h5) (cj (dne_t h9) (cj (o_at (lcell ARat.cells) (Eq.refl (0:Int)) h6) (cj h10 (cj h11 (cj (deq_f h12) True.intro)))))))))))))))))))) (by kernel_rfl))
theorem e3(l:List (List ARat))(lo hi:ARat)(cha cha1:Int)(v:List ARat)(atV:ARat)(sig:Int)(mid:ARat)(z:List ARange)(n:Nat)(sea:List ARange)(h1:Contract prg 108 [(lpv (lcell ARat.cells) l),lo.pv] (vI cha))(h2:Contract prg 108 [(lpv (lcell ARat.cells) l),hi.pv] (vI cha1))(h3:InI64 (cha-cha1))(h4:(cha-cha1)≠0)(h5:(cha-cha1)=1)(h6:l[0]? = some v)(h7:Contract prg 72 [(polyPV v),lo.pv] atV.pv)(h8:Contract prg 71 [atV.pv] (vI sig))(h9:sig=0)(h10:Contract prg 74 [(⟨lo,hi⟩:ARange).pv] mid.pv)(h11:ContractX prg 90 [.pv (lpv (lcell ARat.cells) l),.pv lo.pv,.pv mid.pv] [] (.row 0 0 n 6) [(0,(.pure ((z:List ARange).map ARange.cells).flatten))])(h12:Contract prg 90 [(lpv (lcell ARat.cells) l),mid.pv,hi.pv] (lpv ARange.cells sea))(h13:z.length=n)(h14:((z++sea):List ARange).length*112≤140737488355328):ContractX prg 90 [(.pv (lpv (lcell ARat.cells) l)),(.pv lo.pv),(.pv hi.pv)] [] (.row 0 0 ((z++sea).length) 6) [(0,(.pure (((z++sea):List ARange).map ARange.cells).flatten))] :=
 ContractX.ofL Tryz.func90 (by kernel_rfl) (LX.done mixed tabOk (n:=114) (ns:=[1,1,1,1,1,1,3,1,1,1,1,1,1,1,1,1,1,1,1,6]) (tr:=[.reg [],dr 7 1 [.none,.none,(.pv (vI cha)),.none,.none,(.pv (vI cha1)),(iI (cha-cha1))],.reg [],.dec false,dr 11 0 [.none,.none,.none,.none,(.row 0 ((lcell ARat.cells) v)),.none,.none,(.pv atV.pv),(.pv (vI sig)),.none,(.dec true)],.dec false,.reg [.none,.none,.none,(.pv mid.pv)],dr 8 2 [.none,.none,.none,(.callX [] (some (0,51)) (.row 0 0 n 6) [(0,(.pure ((z:List ARange).map ARange.cells).flatten))]),.none,.none,.none,(.pv (lpv ARange.cells sea)),(.app ((z++sea):List ARange).length (((z++sea):List ARange).map ARange.cells).flatten)],.ren 56 0,.drop [8,5,4],.ord [0]]) rfl (cj h1 (cj h2 (cj (bs_sub h3) (cj (deq_f h4) (cj (deq_t h5) (cj (deq_t h5) (cj (o_at (lcell ARat.cells) (Eq.refl (0:Int)) h6) (cj (deq_t h5) (cj (deq_t h5) (cj (deq_t h5) (cj h7 (cj (deq_t h5) (cj h8 (cj (deq_t h5) (cj (deq_t h5) (cj (dne_f h9) (cj h10 (cj h11 (cj h12 (cj (o_appL sz_ARange (z:List ARange) (sea:List ARange) 112 h13 h14 rfl) True.intro)))))))))))))))))))) (by kernel_rfl))
theorem e4(l:List (List ARat))(lo hi:ARat)(cha cha1:Int)(mid:ARat)(z:List ARange)(n:Nat)(sea:List ARange)(h1:Contract prg 108 [(lpv (lcell ARat.cells) l),lo.pv] (vI cha))(h2:Contract prg 108 [(lpv (lcell ARat.cells) l),hi.pv] (vI cha1))(h3:InI64 (cha-cha1))(h4:(cha-cha1)≠0)(h5:(cha-cha1)≠1)(h6:Contract prg 74 [(⟨lo,hi⟩:ARange).pv] mid.pv)(h7:ContractX prg 90 [.pv (lpv (lcell ARat.cells) l),.pv lo.pv,.pv mid.pv] [] (.row 0 0 n 6) [(0,(.pure ((z:List ARange).map ARange.cells).flatten))])(h8:Contract prg 90 [(lpv (lcell ARat.cells) l),mid.pv,hi.pv] (lpv ARange.cells sea))(h9:z.length=n)(h10:((z++sea):List ARange).length*112≤140737488355328):ContractX prg 90 [(.pv (lpv (lcell ARat.cells) l)),(.pv lo.pv),(.pv hi.pv)] [] (.row 0 0 ((z++sea).length) 6) [(0,(.pure (((z++sea):List ARange).map ARange.cells).flatten))] :=
 ContractX.ofL Tryz.func90 (by kernel_rfl) (LX.done mixed tabOk (n:=114) (ns:=[1,1,1,1,1,1,1,1,1,1,1,1,1,1,1,6]) (tr:=[.reg [],dr 7 1 [.none,.none,(.pv (vI cha)),.none,.none,(.pv (vI cha1)),(iI (cha-cha1))],.reg [],.dec false,dr 11 0 [.none,.none,.none,.skip,.skip,.skip,.skip,.skip,.skip,.skip,(.dec false)],.auto,.reg [.none,.none,.none,(.pv mid.pv)],dr 8 2 [.none,.none,.none,(.callX [] (some (0,51)) (.row 0 0 n 6) [(0,(.pure ((z:List ARange).map ARange.cells).flatten))]),.none,.none,.none,(.pv (lpv ARange.cells sea)),(.app ((z++sea):List ARange).length (((z++sea):List ARange).map ARange.cells).flatten)],.ren 56 0,.drop [8,5,4],.ord [0]]) rfl (cj h1 (cj h2 (cj (bs_sub h3) (cj (deq_f h4) (cj (deq_f h5) (cj (deq_f h5) (cj (deq_f h5) (cj (deq_f h5) (cj (deq_f h5) (cj (deq_f h5) (cj (deq_f h5) (cj (deq_f h5) (cj h6 (cj h7 (cj h8 (cj (o_appL sz_ARange (z:List ARange) (sea:List ARange) 112 h9 h10 rfl) True.intro)))))))))))))))) (by kernel_rfl))
end linkworkref06_searchX
namespace linkworkref06_chain
@[reducible] noncomputable def fn:Func:=Tryz.f91
noncomputable def atK1:List Itm:=focus [0,2,0,2,0,2,0,2,0,0,0] [.code (bodyOf fn)]
def inv1(d_5:List ARat)(site_22:List (List ARat)):St:=⟨[(5,(.pv (polyPV d_5))),(7,(.row 22 0 site_22.length 1))],[(22,(.pure ((site_22:List (List ARat)).map (lcell ARat.cells)).flatten))]⟩
@[reducible] noncomputable def Loop1(d_5:List ARat)(site_22:List (List ARat))(r:PV):Prop:=L prg fn atK1 (inv1 d_5 site_22) r
theorem e0(p fre:List ARat)(fre1:Int)(der:List ARat)(der1:Int){r:PV}(h1:Contract prg 70 [(polyPV p)] (.tup [(polyPV fre),(vI fre1)]))(h2:Contract prg 143 [(polyPV fre)] (.tup [(polyPV der),(vI der1)]))(hL:Loop1 der [fre] r):Contract prg 91 [(polyPV p)] r :=
 Contract.ofL Tryz.func91 (by kernel_rfl) (L.go mixed tabOk (n:=93) (ns:=[1,1]) (tr:=[.reg [],.reg [.none,(.pv (.tup [(polyPV fre),(vI fre1)]))],.reg [.none,(.pv (.tup [(polyPV der),(vI der1)]))],.reg [],.keep [5,7]]) (cj h1 (cj h2 True.intro)) (by kernel_rfl) hL)
theorem l10(d_5:List ARat)(site_22:List (List ARat))(k:Nat)(v div div1:List ARat)(div2:Int)(of:ARat)(sca:List ARat)(sca1:Int){r:PV}(h1:0<d_5.length)(h2:((site_22++[d_5]):List (List ARat)).length*24≤140737488355328)(h3:InI64 ((((site_22++[d_5]).length:Nat):Int)-2))(h4:((((site_22++[d_5]).length:Nat):Int)-2)=(k:Int))(h5:k<(site_22++[d_5]).length)(h6:(site_22++[d_5])[k]? = some v)(h7:Contract prg 144 [(polyPV v),(polyPV d_5)] (.tup [(polyPV div),(polyPV div1),(vI div2)]))(h8:Contract prg 56 [(vI (-1))] of.pv)(h9:Contract prg 145 [(polyPV div1),of.pv] (.tup [(polyPV sca),(vI sca1)]))(hL:Loop1 sca (site_22++[d_5]) r):Loop1 d_5 site_22 r :=
 L.go mixed tabOk (n:=132) (ns:=[1,1,6,1,2,1,1,1,1]) (tr:=[.auto,.reg [.none,(iI (d_5.length:Int))],.dec true,.reg [.none,.none,.none,(.app ((site_22++[d_5]):List (List ARat)).length (((site_22++[d_5]):List (List ARat)).map (lcell ARat.cells)).flatten)],.reg [.none,.none,.none,(iI ((((site_22++[d_5]).length:Nat):Int)-2)),(.nat k),(.ev (.pv (polyPV v))),.none,(.pv (.tup [(polyPV div),(polyPV div1),(vI div2)]))],.reg [.none,(.pv of.pv),(.pv (.tup [(polyPV sca),(vI sca1)]))],.keep [5,7],.drop [28],.ren 29 22]) (cj (o_len ARat.cells d_5) (cj (dltN_t h1) (cj (o_appR (sz_l ARat.cells) (site_22:List (List ARat)) ([d_5]:List (List ARat)) 24 (Eq.refl (site_22:List (List ARat)).length) (Eq.refl ([d_5]:List (List ARat)).length) h2 rfl) (cj (bs_sub h3) (cj (cj h4 h5) (cj (o_get (enc:=(lcell ARat.cells)) (f:=fun a=>(polyPV a)) (fun _=>rfl) h6) (cj h7 (cj h8 (cj h9 True.intro))))))))) (by kernel_rfl) hL
theorem l11(d_5:List ARat)(site_22:List (List ARat))(h1:d_5.length≤0):Loop1 d_5 site_22 (lpv (lcell ARat.cells) site_22) :=
 L.done mixed tabOk (n:=126) (ns:=[1,1,3]) (tr:=[.auto,.reg [.none,(iI (d_5.length:Int))],.dec false,.reg [],.frzT 2 ((site_22:List (List ARat)).map (lcell ARat.cells))]) (cj (o_len ARat.cells d_5) (cj (dltN_f h1) (cj (o_frz (sz_l ARat.cells) (site_22:List (List ARat)) (Eq.refl (site_22:List (List ARat)).length)) True.intro))) (by kernel_rfl)
end linkworkref06_chain
namespace linkworkref06_changes
@[reducible] noncomputable def fn:Func:=Tryz.f108
noncomputable def atK1:List Itm:=focus [0,2,0,2,0,0,2,0,0] [.code (bodyOf fn)]
def inv1(n_5:Nat)(last_6:Int)(l:List (List ARat))(t_12:Nat)(x:ARat):St:=⟨[(3,(.ptr 3 0)),(5,(eI (n_5:Int))),(6,(eI last_6)),(10,(.pv (lpv (lcell ARat.cells) l))),(11,(eI (l.length:Int))),(12,(eI (t_12:Int)))],[(3,(.lit [(eB x.neg),(.pv (wordsPV x.num)),(.pv (wordsPV x.den))]))]⟩
@[reducible] noncomputable def Loop1(n_5:Nat)(last_6:Int)(l:List (List ARat))(t_12:Nat)(x:ARat)(r:PV):Prop:=L prg fn atK1 (inv1 n_5 last_6 l t_12 x) r
theorem e0 (l : List (List ARat)) (x : ARat) {r : PV}  (hL : Loop1 0 0 l 0 x r) : Contract prg 108 [(lpv (lcell ARat.cells) l), x.pv] r :=
 Contract.ofL Tryz.func108 (by kernel_rfl) (L.go mixed tabOk (n:=87) (ns:=[1]) (tr:=[.reg [],.reg [],.reg [.none,(iI (l.length:Int))],.keep [3,5,6,10,11,12]]) (cj (o_len (lcell ARat.cells) l) True.intro) (by kernel_rfl) hL)
theorem l10(n_5:Nat)(last_6:Int)(l:List (List ARat))(t_12:Nat)(x:ARat)(v:List ARat)(atV:ARat)(sig:Int){r:PV}(h1:t_12<l.length)(h2:l[t_12]? = some v)(h3:Contract prg 72 [(polyPV v),x.pv] atV.pv)(h4:Contract prg 71 [atV.pv] (vI sig))(h5:sig=0)(h6:(t_12+1)<9223372036854775808)(hL:Loop1 n_5 last_6 l (t_12+1) x r):Loop1 n_5 last_6 l t_12 x r :=
 L.go mixed tabOk (n:=147) (ns:=[1,3,1,1,1,1]) (tr:=[.auto,.reg [],.dec true,.reg [(.row t_12 ((lcell ARat.cells) v))],.reg [.none,.none,(.pv atV.pv),(.pv (vI sig))],.reg [],.dec true,.reg [(iI (((t_12+1):Nat):Int))],.keep [3,5,6,10,11,12]]) (cj (dltN_t h1) (cj (o_at (lcell ARat.cells) (Eq.refl (((t_12:Nat):Int):Int)) h2) (cj h3 (cj h4 (cj (deq_t h5) (cj (bs_addN h6) True.intro)))))) (by kernel_rfl) hL
theorem l11(n_5:Nat)(last_6:Int)(l:List (List ARat))(t_12:Nat)(x:ARat)(v:List ARat)(atV:ARat)(sig:Int){r:PV}(h1:t_12<l.length)(h2:l[t_12]? = some v)(h3:Contract prg 72 [(polyPV v),x.pv] atV.pv)(h4:Contract prg 71 [atV.pv] (vI sig))(h5:sig≠0)(h6:InI64 (-last_6))(h7:sig=(-last_6))(h8:(n_5+1)<9223372036854775808)(h9:(t_12+1)<9223372036854775808)(hL:Loop1 (n_5+1) sig l (t_12+1) x r):Loop1 n_5 last_6 l t_12 x r :=
 L.go mixed tabOk (n:=162) (ns:=[1,3,1,1,1,1,1,1,1]) (tr:=[.auto,.reg [],.dec true,.reg [(.row t_12 ((lcell ARat.cells) v))],.reg [.none,.none,(.pv atV.pv),(.pv (vI sig))],.reg [],.dec false,.reg [.none,.none,(iI (-last_6))],.dec true,.reg [.none,(iI (((n_5+1):Nat):Int))],.reg [],.reg [(iI (((t_12+1):Nat):Int))],.keep [3,5,6,10,11,12]]) (cj (dltN_t h1) (cj (o_at (lcell ARat.cells) (Eq.refl (((t_12:Nat):Int):Int)) h2) (cj h3 (cj h4 (cj (deq_f h5) (cj (us_neg h6) (cj (deq_t h7) (cj (bs_addN h8) (cj (bs_addN h9) True.intro))))))))) (by kernel_rfl) hL
theorem l12(n_5:Nat)(last_6:Int)(l:List (List ARat))(t_12:Nat)(x:ARat)(v:List ARat)(atV:ARat)(sig:Int){r:PV}(h1:t_12<l.length)(h2:l[t_12]? = some v)(h3:Contract prg 72 [(polyPV v),x.pv] atV.pv)(h4:Contract prg 71 [atV.pv] (vI sig))(h5:sig≠0)(h6:InI64 (-last_6))(h7:sig≠(-last_6))(h8:(t_12+1)<9223372036854775808)(hL:Loop1 n_5 sig l (t_12+1) x r):Loop1 n_5 last_6 l t_12 x r :=
 L.go mixed tabOk (n:=162) (ns:=[1,3,1,1,1,1,1,1]) (tr:=[.auto,.reg [],.dec true,.reg [(.row t_12 ((lcell ARat.cells) v))],.reg [.none,.none,(.pv atV.pv),(.pv (vI sig))],.reg [],.dec false,.reg [.none,.none,(iI (-last_6))],.dec false,.reg [],.reg [(iI (((t_12+1):Nat):Int))],.keep [3,5,6,10,11,12]]) (cj (dltN_t h1) (cj (o_at (lcell ARat.cells) (Eq.refl (((t_12:Nat):Int):Int)) h2) (cj h3 (cj h4 (cj (deq_f h5) (cj (us_neg h6) (cj (deq_f h7) (cj (bs_addN h8) True.intro)))))))) (by kernel_rfl) hL
theorem l13(n_5:Nat)(last_6:Int)(l:List (List ARat))(t_12:Nat)(x:ARat)(h1:l.length≤t_12):Loop1 n_5 last_6 l t_12 x (vI (n_5:Int)) :=
 L.done mixed tabOk (n:=120) (ns:=[1]) (tr:=[.auto,.reg [],.dec false,.reg []]) (cj (dltN_f h1) True.intro) (by kernel_rfl)
end linkworkref06_changes
namespace linkworkref06_sign
theorem e0(p:List ARat)(x:ARat)(fre:List ARat)(fre1:Int)(atV:ARat)(sig:Int)(h1:Contract prg 70 [(polyPV p)] (.tup [(polyPV fre),(vI fre1)]))(h2:Contract prg 72 [(polyPV fre),x.pv] atV.pv)(h3:Contract prg 71 [atV.pv] (vI sig)):Contract prg 121 [(polyPV p),x.pv] (vI sig) :=
 Contract.ofL Tryz.func121 (by kernel_rfl) (L.done mixed tabOk (n:=78) (ns:=[1,1,1]) (tr:=[.reg [],.reg [.none,(.pv (.tup [(polyPV fre),(vI fre1)]))],.reg [.none,.none,(.pv atV.pv),(.pv (vI sig))]]) (cj h1 (cj h2 (cj h3 True.intro))) (by kernel_rfl))
end linkworkref06_sign
end Go.Proofs.YtjadajceekjeoaaGreatDoor.Sym.Path
namespace Go.Proofs.YtjadajceekjeoaaGreatDoor.Sym
open Go Path CInt
set_option linter.unusedVariables false
namespace CSt
theorem check(p:List ARat)(hp:FitP 274877906944 p):Contract prg 46 [polyPV p] (errPV (errOf (if chk p=0 then (if p.length=0 then 8 else 0) else chk p))):=by
 have hk:=CPo.Check p hp
 by_cases h:chk p=0
 ·rw[if_pos h]
  rw[h] at hk
  by_cases h0:p.length=0
  ·rw[if_pos h0];exact sturm_check.e0 p hk h0
  ·rw[if_neg h0];exact sturm_check.e1 p hk h0
 ·rw[if_neg h]
  rw[errOf_ne h] at hk ⊢
  exact sturm_check.e2 p _ hk
theorem chain{h L:Nat}{p:List Rat}(f:Fine h L p):Contract prg 48 [pq p] (.tup [pqs (chainL p),.nilI]):=by
 have hL:=f.hL
 have hfb:=f.fb
 obtain⟨f1,f2,_⟩:=free_spec f.zp f.ne
 have hfl:=f.free_len
 have hl:=f.len
 have hff:=f.free_ch.fl hfb.2.2.1
 have hd:=CPo.Derive ((freeL p).map mkR) (chk_map f1 (by omega)) (fit_mapk (fl_mono hff (by omega)))
 rw[vals_mkR] at hd
 have loop:∀(n i j:Nat) (pre:List (List Rat)) (q d:List Rat),d.length<n→pre.length+n≤20→Euc (fB h L) (fB h L+1) L i j q d→sturm_chain.Loop1 (d.map mkR) ((pre++[q]).map (fun g=>g.map mkR)) (.tup [pqs (pre++chainF n q d),.nilI]):=by
  intro n
  induction n with
  |zero=>intro i j pre q d hn;omega
  |succ n ih =>
   intro i j pre q d hn hpl e
   by_cases h0:d=[]
   ·subst h0
    rw[chainF_nil]
    exact sturm_chain.l13 _ _ (by simp)
   ·rw[chainF_cons h0]
    obtain⟨c1,c2⟩:=CPl.next hfb.2.2.1 (Nat.le_succ _) (by omega) f.free_x2 e h0
    obtain⟨r1,r2⟩:=e.rest (Nat.le_succ _) h0
    have hc:Ch (xB (fB h L) (fB h L+1) (j+(q.length-d.length))) (trimL (smulL (-1) (restL q d))):=by
     refine Ch.trim ?_
     obtain⟨D,d1,d2,d3⟩:=r1
     refine⟨D,d1,d2,fun i => ?_⟩
     obtain⟨m,m1,m2⟩:=d3 i
     refine⟨-m,?_,by rw[wl_neg];exact m2⟩
     rw[coef_smulL,Rat.intCast_neg,←m1];grind
    have next:=ih _ _ (pre++[q]) d _ (by have:=rest_neg_len (p:=q) e.zq h0;omega) (by rw[List.length_append,List.length_singleton];omega) (e.next (Nat.le_succ _) h0 hc (rest_neg_len e.zq h0) (lastZ_trimL _))
    have es:(pre++[q]).map (fun g=>g.map mkR)++[d.map mkR]=(pre++[q]++[d]).map (fun g=>g.map mkR):=by rw[List.map_append (l₁:=pre++[q])];rfl
    have hlen:((pre++[q]++[d]).map (fun g=>g.map mkR)).length=pre.length+2:=by simp
    have hone:=CFr.Of (-1) (by unfold InI64;omega)
    have:=List.length_pos_iff.2 h0
    refine sturm_chain.l10 _ _ pre.length (q.map mkR) _ _ _ _ (by rw[lenM];omega) (by rw[es,hlen];omega) (by rw[es,hlen];unfold InI64;omega) (by rw[es,hlen];omega) (by rw[es,hlen];omega) (by rw[es];simp) c1 hone c2 ?_
    rw[es]
    have e2:pre++[q]++chainF n d (trimL (smulL (-1) (restL q d)))=pre++q::chainF n d (trimL (smulL (-1) (restL q d))):=by simp
    rwa[e2] at next
 have:=loop (freeL p).length 0 1 [] (freeL p) (deriveL (freeL p)) (deriveL_lt2 f2) (by simp;omega) f.free_euc
 exact sturm_chain.e0 _ _ _ (CPl.Free f) hd this
theorem changes(G:List (List Rat))(x:Rat)(hG:∀g∈G,lastZ g=false∧Fl 1073741824 g∧g.length≤10)(hl:G.length≤1000)(hx:ht x≤1073741824):Contract prg 49 [pqs G,(mkR x).pv] (vI (chg G x)):=by
 have loop:∀(j t n:Nat) (l:Int),G.length-t=j→t≤G.length→n≤t → -1≤l→l≤1→sturm_changes.Loop1 n l (G.map (fun g=>g.map mkR)) t (mkR x) (vI ((n:Int)+varS l ((G.drop t).map (fun g=>sg (evalL g x))))):=by
  intro j
  induction j with
  |zero =>
   intro t n l hj ht hn _ _
   rw[List.drop_of_length_le (by omega),List.map_nil,varS,Int.add_zero]
   exact sturm_changes.l13 n l _ t _ (by rw[List.length_map];omega)
  |succ j ih =>
   intro t n l hj htt hn hl1 hl2
   obtain⟨g,hg⟩:∃g,G[t]? = some g:=⟨_,List.getElem?_eq_getElem (by omega)⟩
   obtain⟨z,fl,ln⟩:=hG g (List.mem_of_getElem? hg)
   have hm:(G.map (fun g=>g.map mkR))[t]? = some (g.map mkR):=by rw[List.getElem?_map,hg];rfl
   have hev:=CPo.Eval (g.map mkR) (mkR x) (chk_map z (by omega)) (fit_mapk fl) (fit_mkRk hx)
   rw[vals_mkR,mkR_val] at hev
   have h3:=ht_eval g x 1073741824 fl hx
   have h4:g.length*(2*1073741824+1)≤10*(2*1073741824+1):=Nat.mul_le_mul_right _ ln
   have hs:=QF.Sign (evalL g x) (by omega)
   have hv:=sturm_value.e0 _ _ _ none _ hev hs
   have hsg:cmpR (evalL g x) 0=sg (evalL g x):=rfl
   have h3s:=sg_three (evalL g x)
   rw[hsg] at hv
   have hlt:t<(G.map (fun g=>g.map mkR)).length:=by rw[List.length_map];omega
   rw[drop_cons hg,List.map_cons,varS]
   generalize sg (evalL g x)=s at hv h3s
   by_cases h0:s=0
   ·rw[if_pos h0]
    exact sturm_changes.l12 n l _ t _ _ _ hlt hm hv h0 (by omega) (ih (t+1) n l (by omega) (by omega) (by omega) hl1 hl2)
   ·rw[if_neg h0]
    by_cases h1:s = -l
    ·rw[if_pos h1]
     have:=ih (t+1) (n+1) s (by omega) (by omega) (by omega) (by omega) (by omega)
     rw[show (((n+1:Nat):Int))+varS s ((G.drop (t+1)).map (fun g=>sg (evalL g x)))=(n:Int)+(1+varS s ((G.drop (t+1)).map (fun g=>sg (evalL g x)))) from by omega] at this
     exact sturm_changes.l10 n l _ t _ _ _ hlt hm hv h0 (by unfold InI64;omega) h1 (by omega) (by omega) this
    ·rw[if_neg h1,Int.zero_add]
     exact sturm_changes.l11 n l _ t _ _ _ hlt hm hv h0 (by unfold InI64;omega) h1 (by omega) (ih (t+1) n s (by omega) (by omega) (by omega) (by omega) (by omega))
 have:=loop _ 0 0 0 rfl (by omega) (by omega) (by omega) (by omega)
 rw[List.drop_zero,show(((0:Nat):Int))=0 from rfl,Int.zero_add] at this
 exact sturm_changes.e0 _ _ this
theorem chain_all{h L:Nat}{p:List Rat}(f:Fine h L p):∀g∈chainL p,lastZ g=false∧Fl 1073741824 g∧g.length≤10:=by
 intro g hg
 refine⟨?_,f.chain g hg⟩
 have key:∀(n:Nat) (p d:List Rat),lastZ p=false→lastZ d=false→∀g∈chainF n p d,lastZ g=false:=by
  intro n
  induction n with
  |zero=>intro p d hp _ g hg;rw[chainF,List.mem_singleton] at hg;rw[hg];exact hp
  |succ n ih =>
   intro p d hp hd g hg
   by_cases h:d=[]
   ·rw[h,chainF_nil,List.mem_singleton] at hg;rw[hg];exact hp
   ·rw[chainF_cons h] at hg
    rcases List.mem_cons.1 hg with hg|hg
    ·rw[hg];exact hp
    ·exact ih d _ hd (lastZ_trimL _) g hg
 exact key _ _ _ (free_spec f.zp f.ne).1 (lastZ_deriveL _) g hg
theorem Count{h L:Nat}{p:List Rat}(f:Fine h L p)(lo hi:Rat)(hlh:lo≤hi)(h1:ht lo≤1073741824)(h2:ht hi≤1073741824):Contract prg 13 [pq p,(mkR lo).pv,(mkR hi).pv] (.tup [vI (chg (chainL p) lo-chg (chainL p) hi),.nilI]):=by
 have hc:=f.chain_count
 have hck:=check (p.map mkR) (fitQ (f.ch.fl f.h1) (by have:=f.fb;omega))
 have hp:=List.length_pos_iff.2 f.ne
 rw[f.chk,if_pos rfl,if_neg (by rw[lenM];omega)] at hck
 obtain⟨a1,a2⟩:=chg_range (chainL p) lo
 obtain⟨b1,b2⟩:=chg_range (chainL p) hi
 exact sturm_Count.e3 _ _ _ _ _ _ _ _ _ hck (QF.Valid lo (by omega)) rfl (QF.Valid hi (by omega)) rfl (QF.Cmp lo hi (by omega) (by omega)) (cmpR_le.2 hlh) (chain f) (changes _ lo (chain_all f) (by omega) h1) (changes _ hi (chain_all f) (by omega) h2) (by unfold InI64;omega)
end CSt
namespace CSr
theorem Error(p:List ARat)(hp:FitP 274877906944 p):Contract prg 52 [polyPV p] (vI (if chk p=0 then (if p.length=0 then 8 else 0) else chk p)):=by
 have hk:=CRe.Check p hp
 by_cases h:chk p=0
 ·rw[if_pos h]
  by_cases h0:p.length=0
  ·rw[if_pos h0];exact linkworkref06_Error.e1 p _ hk h h0
  ·rw[if_neg h0];exact linkworkref06_Error.e2 p _ hk h h0
 ·rw[if_neg h];exact linkworkref06_Error.e0 p _ hk h
theorem chain{h L:Nat}{p:List Rat}(f:Fine h L p):Contract prg 91 [pq p] (pqs (chainL p)):=by
 have hL:=f.hL
 have hfb:=f.fb
 obtain⟨f1,f2,_⟩:=free_spec f.zp f.ne
 have hfl:=f.free_len
 have hl:=f.len
 have hff:=f.free_ch.fl hfb.2.2.1
 have hd:=CRe.Derive ((freeL p).map mkR) (chk_map f1 (by omega)) (fit_mapk (fl_mono hff (by omega)))
 rw[vals_mkR] at hd
 have loop:∀(n i j:Nat) (pre:List (List Rat)) (q d:List Rat),d.length<n→pre.length+n≤20→Euc (fB h L) (fB h L+1) L i j q d→linkworkref06_chain.Loop1 (d.map mkR) ((pre++[q]).map (fun g=>g.map mkR)) (pqs (pre++chainF n q d)):=by
  intro n
  induction n with
  |zero=>intro i j pre q d hn;omega
  |succ n ih =>
   intro i j pre q d hn hpl e
   by_cases h0:d=[]
   ·subst h0
    rw[chainF_nil]
    exact linkworkref06_chain.l11 _ _ (by simp)
   ·rw[chainF_cons h0]
    obtain⟨c1,c2⟩:=CPr.next hfb.2.2.1 (Nat.le_succ _) (by omega) f.free_x2 e h0
    obtain⟨r1,r2⟩:=e.rest (Nat.le_succ _) h0
    have hc:Ch (xB (fB h L) (fB h L+1) (j+(q.length-d.length))) (trimL (smulL (-1) (restL q d))):=by
     refine Ch.trim ?_
     obtain⟨D,d1,d2,d3⟩:=r1
     refine⟨D,d1,d2,fun i => ?_⟩
     obtain⟨m,m1,m2⟩:=d3 i
     refine⟨-m,?_,by rw[wl_neg];exact m2⟩
     rw[coef_smulL,Rat.intCast_neg,←m1];grind
    have next:=ih _ _ (pre++[q]) d _ (by have:=rest_neg_len (p:=q) e.zq h0;omega) (by rw[List.length_append,List.length_singleton];omega) (e.next (Nat.le_succ _) h0 hc (rest_neg_len e.zq h0) (lastZ_trimL _))
    have es:(pre++[q]).map (fun g=>g.map mkR)++[d.map mkR]=(pre++[q]++[d]).map (fun g=>g.map mkR):=by rw[List.map_append (l₁:=pre++[q])];rfl
    have hlen:((pre++[q]++[d]).map (fun g=>g.map mkR)).length=pre.length+2:=by simp
    have hone:=CRb.Of (-1) (by unfold InI64;omega)
    have:=List.length_pos_iff.2 h0
    refine linkworkref06_chain.l10 _ _ pre.length (q.map mkR) _ _ _ _ _ _ (by rw[lenM];omega) (by rw[es,hlen];omega) (by rw[es,hlen];unfold InI64;omega) (by rw[es,hlen];omega) (by rw[es,hlen];omega) (by rw[es];simp) c1 hone c2 ?_
    rw[es]
    have e2:pre++[q]++chainF n d (trimL (smulL (-1) (restL q d)))=pre++q::chainF n d (trimL (smulL (-1) (restL q d))):=by simp
    rwa[e2] at next
 have:=loop (freeL p).length 0 1 [] (freeL p) (deriveL (freeL p)) (deriveL_lt2 f2) (by simp;omega) f.free_euc
 exact linkworkref06_chain.e0 _ _ _ _ _ (CPr.Free f) hd this
theorem changes(G:List (List Rat))(x:Rat)(hG:∀g∈G,lastZ g=false∧Fl 1073741824 g∧g.length≤10)(hl:G.length≤1000)(hx:ht x≤1073741824):Contract prg 108 [pqs G,(mkR x).pv] (vI (chg G x)):=by
 have loop:∀(j t n:Nat) (l:Int),G.length-t=j→t≤G.length→n≤t → -1≤l→l≤1→linkworkref06_changes.Loop1 n l (G.map (fun g=>g.map mkR)) t (mkR x) (vI ((n:Int)+varS l ((G.drop t).map (fun g=>sg (evalL g x))))):=by
  intro j
  induction j with
  |zero =>
   intro t n l hj ht hn _ _
   rw[List.drop_of_length_le (by omega),List.map_nil,varS,Int.add_zero]
   exact linkworkref06_changes.l13 n l _ t _ (by rw[List.length_map];omega)
  |succ j ih =>
   intro t n l hj htt hn hl1 hl2
   obtain⟨g,hg⟩:∃g,G[t]? = some g:=⟨_,List.getElem?_eq_getElem (by omega)⟩
   obtain⟨z,fl,ln⟩:=hG g (List.mem_of_getElem? hg)
   have hm:(G.map (fun g=>g.map mkR))[t]? = some (g.map mkR):=by rw[List.getElem?_map,hg];rfl
   have hev:=CRe.At (g.map mkR) (mkR x) (by rw[lenM];omega) (fit_mapk fl) (fit_mkRk hx)
   rw[vals_mkR,mkR_val] at hev
   have h3:=ht_eval g x 1073741824 fl hx
   have h4:g.length*(2*1073741824+1)≤10*(2*1073741824+1):=Nat.mul_le_mul_right _ ln
   have hv:=QR.Sign (evalL g x) (by omega)
   have hsg:cmpR (evalL g x) 0=sg (evalL g x):=rfl
   have h3s:=sg_three (evalL g x)
   rw[hsg] at hv
   have hlt:t<(G.map (fun g=>g.map mkR)).length:=by rw[List.length_map];omega
   rw[drop_cons hg,List.map_cons,varS]
   generalize sg (evalL g x)=s at hv h3s
   by_cases h0:s=0
   ·rw[if_pos h0]
    exact linkworkref06_changes.l10 n l _ t _ _ _ _ hlt hm hev hv h0 (by omega) (ih (t+1) n l (by omega) (by omega) (by omega) hl1 hl2)
   ·rw[if_neg h0]
    by_cases h1:s = -l
    ·rw[if_pos h1]
     have:=ih (t+1) (n+1) s (by omega) (by omega) (by omega) (by omega) (by omega)
     rw[show (((n+1:Nat):Int))+varS s ((G.drop (t+1)).map (fun g=>sg (evalL g x)))=(n:Int)+(1+varS s ((G.drop (t+1)).map (fun g=>sg (evalL g x)))) from by omega] at this
     exact linkworkref06_changes.l11 n l _ t _ _ _ _ hlt hm hev hv h0 (by unfold InI64;omega) h1 (by omega) (by omega) this
    ·rw[if_neg h1,Int.zero_add]
     exact linkworkref06_changes.l12 n l _ t _ _ _ _ hlt hm hev hv h0 (by unfold InI64;omega) h1 (by omega) (ih (t+1) n s (by omega) (by omega) (by omega) (by omega) (by omega))
 have:=loop _ 0 0 0 rfl (by omega) (by omega) (by omega) (by omega)
 rw[List.drop_zero,show(((0:Nat):Int))=0 from rfl,Int.zero_add] at this
 exact linkworkref06_changes.e0 _ _ this
theorem count{h L:Nat}{p:List Rat}(f:Fine h L p)(lo hi:Rat)(h1:ht lo≤1073741824)(h2:ht hi≤1073741824):Contract prg 54 [pq p,(mkR lo).pv,(mkR hi).pv] (vI (chg (chainL p) lo-chg (chainL p) hi)):=by
 have hc:=f.chain_count
 obtain⟨a1,a2⟩:=chg_range (chainL p) lo
 obtain⟨b1,b2⟩:=chg_range (chainL p) hi
 exact linkworkref06_count.e0 _ _ _ _ _ _ (chain f) (changes _ lo (CSt.chain_all f) (by omega) h1) (changes _ hi (CSt.chain_all f) (by omega) h2) (by unfold InI64;omega)
end CSr
end Go.Proofs.YtjadajceekjeoaaGreatDoor.Sym
namespace Go.Proofs.YtjadajceekjeoaaGreatDoor.Sym
open Go Path CInt
set_option linter.unusedVariables false
def mkG(a b:Rat):ARange:=⟨mkR a,mkR b⟩
def ARange.ok(r:ARange):Bool:=r.lo.valid&&(r.hi.valid&&decide (r.lo.val≤r.hi.val))
def loG(r:ARange):Rat:=bif r.ok then r.lo.val else 0
def hiG(r:ARange):Rat:=bif r.ok then r.hi.val else 0
theorem ok_parts{r:ARange}(h:r.ok=true):r.lo.valid=true∧r.hi.valid=true∧r.lo.val≤r.hi.val:=by
 unfold ARange.ok at h
 simp only[Bool.and_eq_true,decide_eq_true_eq] at h
 exact h
theorem loG_le(r:ARange):loG r≤hiG r:=by
 unfold loG hiG
 cases h:r.ok with
 |true=>exact(ok_parts h).2.2
 |false=>exact Rat.le_refl
theorem ok_mkG{a b:Rat}(h:a≤b):(mkG a b).ok=true:=by
 unfold ARange.ok mkG
 simp only[mkR_valid,mkR_val,decide_eq_true h,Bool.and_self]
theorem loG_mk{a b:Rat}(h:a≤b):loG (mkG a b)=a:=by unfold loG;rw[ok_mkG h,cond_true];exact mkR_val a
theorem hiG_mk{a b:Rat}(h:a≤b):hiG (mkG a b)=b:=by unfold hiG;rw[ok_mkG h,cond_true];exact mkR_val b
theorem mkG_of{r:ARange}(h:r.ok=true):mkG (loG r) (hiG r)=r:=by
 obtain⟨h1,h2,h3⟩:=ok_parts h
 unfold mkG loG hiG
 rw[h,cond_true,cond_true,mkR_of h1,mkR_of h2]
theorem mkG_not{r:ARange}(h:r.ok=false):mkG (loG r) (hiG r)=⟨⟨false,[],[]⟩,⟨false,[],[]⟩⟩:=by
 unfold mkG loG hiG
 rw[h];rfl
abbrev FitG(k:Nat)(r:ARange):Prop:=(r.lo.num.length≤k∧r.lo.den.length≤k)∧(r.hi.num.length≤k∧r.hi.den.length≤k)
theorem fit_mkG{a b:Rat}{k:Nat}(ha:ht a≤k)(hb:ht b≤k):FitG k (mkG a b):=⟨fit_mkRk ha,fit_mkRk hb⟩
theorem ht_loG{r:ARange}{k:Nat}(h:FitG k r)(hk:1≤k):ht (loG r)≤k:=by
 unfold loG
 cases r.ok with
 |true=>exact ht_fit h.1.1 h.1.2 hk
 |false=>exact Nat.le_trans (Nat.le_of_eq ht_zero) hk
theorem ht_hiG{r:ARange}{k:Nat}(h:FitG k r)(hk:1≤k):ht (hiG r)≤k:=by
 unfold hiG
 cases r.ok with
 |true=>exact ht_fit h.2.1 h.2.2 hk
 |false=>exact Nat.le_trans (Nat.le_of_eq ht_zero) hk
namespace CIv
theorem Valid(r:ARange)(h:FitG 68719476736 r):Contract prg 117 [r.pv] (vB r.ok):=by
 have h1:=CFr.Valid r.lo ⟨by omega,by omega⟩
 have h2:=CFr.Valid r.hi ⟨by omega,by omega⟩
 have h3:=CFr.Cmp r.lo r.hi ⟨by omega,by omega⟩ ⟨by omega,by omega⟩
 unfold ARange.ok
 cases hv:r.lo.valid with
 |false=>exact interval_Valid.e2 r _ h1 hv
 |true =>
  cases hw:r.hi.valid with
  |false=>exact interval_Valid.e1 r _ _ h1 hv h2 hw
  |true =>
   have:=interval_Valid.e0 r _ _ _ h1 hv h2 hw h3
   rwa[show decide (cmpR r.lo.val r.hi.val≤0)=decide (r.lo.val≤r.hi.val) from decide_eq_decide.2 cmpR_le] at this
theorem clean(r:ARange)(h:FitG 68719476736 r):Contract prg 95 [r.pv] (mkG (loG r) (hiG r)).pv:=by
 have hv:=Valid r h
 cases hk:r.ok with
 |false=>rw[mkG_not hk];exact interval_clean.e0 r _ hv hk
 |true =>
  obtain⟨h1,h2,h3⟩:=ok_parts hk
  have:=interval_clean.e1 r _ _ _ hv hk (CPo.addZ r.lo ⟨by omega,by omega⟩) (CPo.addZ r.hi ⟨by omega,by omega⟩)
  rw[mkR_of h1,mkR_of h2] at this
  rw[mkG_of hk];exact this
theorem Point(x:Rat)(hx:ht x≤68719476736):Contract prg 66 [(mkR x).pv] (mkG x x).pv:=interval_Point.e0 _ _ _ (QF.addZ x hx) (QF.addZ x hx)
theorem Hull(r s:ARange)(h:FitG 68719476736 r)(h':FitG 68719476736 s):Contract prg 63 [r.pv,s.pv] (mkG (minR (loG r) (loG s)) (maxR (hiG r) (hiG s))).pv :=
 interval_Hull.e0 r s _ _ _ _ (clean r h) (clean s h') (QF.Min _ _ (ht_loG h (by omega)) (ht_loG h' (by omega))) (QF.Max _ _ (ht_hiG h (by omega)) (ht_hiG h' (by omega)))
end CIv
namespace CJv
theorem Valid(r:ARange)(h:FitG 68719476736 r):Contract prg 120 [r.pv] (vB r.ok):=by
 have h1:=CRb.Valid r.lo ⟨by omega,by omega⟩
 have h2:=CRb.Valid r.hi ⟨by omega,by omega⟩
 have h3:=CRb.Cmp r.lo r.hi ⟨by omega,by omega⟩ ⟨by omega,by omega⟩
 unfold ARange.ok
 cases hv:r.lo.valid with
 |false=>exact linkworkref03_Valid.e2 r _ h1 hv
 |true =>
  cases hw:r.hi.valid with
  |false=>exact linkworkref03_Valid.e1 r _ _ h1 hv h2 hw
  |true =>
   have:=linkworkref03_Valid.e0 r _ _ _ h1 hv h2 hw h3
   rwa[show decide (cmpR r.lo.val r.hi.val≤0)=decide (r.lo.val≤r.hi.val) from decide_eq_decide.2 cmpR_le] at this
end CJv
end Go.Proofs.YtjadajceekjeoaaGreatDoor.Sym

namespace Go.Proofs.YtjadajceekjeoaaGreatDoor.Sym
open Go Path CInt
set_option linter.unusedVariables false
theorem chg_mono{f:List Rat}(hz:lastZ f=false)(hf:f≠[])(hc:Cop f (deriveL f)){u v ε:Rat}(huv:u≤v){s:Int}(hs:s=1∨s = -1)(hε:0<ε)(hb:Big ε u v (deriveL f) s) :
  chg (chainF f.length f (deriveL f)) u+(if sg (evalL f v) = -s then 1 else 0)=chg (chainF f.length f (deriveL f)) v+(if sg (evalL f u) = -s then 1 else 0):=by
 obtain⟨R,hR,hu,hv⟩:=both_ab (a:=u) (b:=v)
 have h2:deriveL f≠[]:=by
  intro e
  have:=(hb u Rat.le_refl huv).1
  rw[e] at this
  have e0:sg (evalL [] u)=0:=by show sg (0:Rat)=0;decide
  rw[e0] at this
  omega
 obtain⟨δ,ε0,hδ,hε0,hl⟩:=loc_exists hz h2 hf hc hR
 have hS:=sec_nonneg hR f
 have hd:=div_pos' hε (show 0<sec f R+1 by grind)
 have hde:=Rat.div_mul_cancel (a:=ε) (b:=sec f R+1) (by grind)
 generalize ε/(sec f R+1)=δ2 at hd hde
 have hmin:0<minR δ δ2:=by unfold minR;split<;>assumption
 have m1:=minR_le_l δ δ2
 have m2:=minR_le_r δ δ2
 refine subdiv (P:=fun u v=>chg (chainF f.length f (deriveL f)) u+(if sg (evalL f v) = -s then 1 else 0)=chg (chainF f.length f (deriveL f)) v+(if sg (evalL f u) = -s then 1 else 0)) hmin huv ?_ ?_
 ·intro x y h1 hxy h3 hw
  have hx:=ab_between (x:=x) h1 (by grind) hu hv
  have hy:=ab_between (x:=y) (by grind) h3 hu hv
  have hb':Big ε x y (deriveL f) s:=fun z z1 z2=>hb z (by grind) (by grind)
  rcases hl x y hx hy hxy (by grind) with ⟨⟨t,ht,hB⟩,e⟩|⟨t,ht,hm,e⟩
  ·show _+_=_+_
   rw[(hB x Rat.le_refl hxy).1,(hB y hxy Rat.le_refl).1,e]
  ·show _+_=_+_
   by_cases exy:x=y
   ·rw[exy]
   ·have hlt:x<y:=by grind
    have k1:=hm x y Rat.le_refl hlt Rat.le_refl
    have w3:=Rat.mul_le_mul_of_nonneg_left (show y-x≤δ2 by grind) hS
    have k2:=mono_of (δ:=0) hx hy hs hb' hε (show sec f R*(y-x)<ε by grind) x y Rat.le_refl hlt Rat.le_refl
    have est:t=s:=by
     rcases hs with rfl|rfl<;>rcases ht with rfl|rfl<;>first|rfl|(exfalso;rw[show ((1:Int):Rat)=1 from rfl,show((-1:Int):Rat) = -1 from rfl] at *;grind)
    rw[est] at e
    exact e
 ·intro x y z _ _ _ _ e1 e2
  have e1:_+_=_+_:=e1
  have e2:_+_=_+_:=e2
  show _+_=_+_
  omega
theorem sep{f U V:List Rat}{R u v ε:Rat}(hz:lastZ f=false)(hf:f≠[])(hc:Cop f (deriveL f))(hu:ab u≤R)(hv:ab v≤R)(huv:u≤v)(hU:∀x,evalL U x*evalL f x+evalL V x*evalL (deriveL f) x=1)(hε:0<ε)(h1:(nrm U R+nrm V R)*(2*ε)<1)(hl1:lip f R*(v-u)≤ε)(hl2:lip (deriveL f) R*(v-u)≤ε) :
  chg (chainF f.length f (deriveL f)) u-chg (chainF f.length f (deriveL f)) v≤1∧(evalL f u=0→chg (chainF f.length f (deriveL f)) u-chg (chainF f.length f (deriveL f)) v≤0):=by
 rcases big_or_small f hu hv huv Rat.le_refl hε hl1 with ⟨s,hs,hb⟩|hsm
 ·have hw:Away f u v:=⟨ε,hε,fun x a b=>(hb x a b).2⟩
  have:=chg_keep hz hf hc huv hw
  exact⟨by omega,fun _=>by omega⟩
 ·rcases big_or_small (deriveL f) hu hv huv Rat.le_refl hε hl2 with ⟨s,hs,hb⟩|hsm2
  ·have e:=chg_mono hz hf hc huv hs hε hb
   constructor
   ·split at e<;>split at e<;>omega
   ·intro h0
    have hz0:sg (evalL f u) ≠ -s:=by rw[h0];rcases hs with rfl|rfl<;>decide
    rw[if_neg hz0] at e
    split at e<;>omega
  ·exfalso
   have a1:=ab_eval hu U
   have a2:=ab_eval hu V
   have a3:=hsm u Rat.le_refl huv
   have a4:=hsm2 u Rat.le_refl huv
   have a5:=ab_add (evalL U u*evalL f u) (evalL V u*evalL (deriveL f) u)
   rw[hU u,ab_mul,ab_mul] at a5
   have hR:=Rat.le_trans (ab_nonneg u) hu
   have b1:=mul_le_mul' a1 (Rat.le_of_lt a3) (ab_nonneg _) (by grind)
   have b2:=mul_le_mul' a2 (Rat.le_of_lt a4) (ab_nonneg _) (by grind)
   have e1:ab (1:Rat)=1:=by decide +kernel
   rw[e1] at a5
   grind
def twP(n:Nat):Rat:=(((2^n:Nat):Int):Rat)
theorem twP_add(m n:Nat):twP (m+n)=twP m*twP n:=by
 unfold twP
 rw[Nat.pow_add,Int.natCast_mul,Rat.intCast_mul]
theorem twP_mono{m n:Nat}(h:m≤n):twP m≤twP n:=Rat.intCast_le_intCast.2 (by have:=Nat.pow_le_pow_right (n:=2) (by omega) h;omega)
theorem twP_zero:twP 0=1:=rfl
theorem twP_ge(n:Nat):1≤twP n:=by rw[←twP_zero];exact twP_mono (Nat.zero_le _)
theorem twP_pos(n:Nat):0<twP n:=by have:=twP_ge n;grind
theorem twP_succ(n:Nat):twP (n+1)=twP n+twP n:=by
 rw[twP_add]
 have:twP 1=2:=rfl
 rw[this];grind
theorem x_den(x:Rat):x*((x.den:Int):Rat)=(x.num:Rat):=by
 have h:(x.num:Rat)/((x.den:Int):Rat)=x:=by rw[←Rat.divInt_eq_div,Rat.num_divInt_den]
 have hd:((x.den:Int):Rat)≠0:=cast_ne (by have:=x.den_pos;omega)
 have:=Rat.div_mul_cancel (a:=(x.num:Rat)) hd
 rwa[h] at this
theorem ab_int(n:Int):ab (n:Rat)=((n.natAbs:Int):Rat):=by
 rcases ab_cases (n:Rat) with ⟨h1,h2⟩|⟨h1,h2⟩
 ·have:0≤n:=Rat.intCast_le_intCast.1 h1
  rw[h2];congr 1;omega
 ·have:n<0:=Rat.intCast_lt_intCast.1 h1
  rw[h2,←Rat.intCast_neg];congr 1;omega
theorem pow_words(k:Nat):4294967296^k=2^(32*k):=by rw[Nat.pow_mul]
theorem int_tw(n:Int){k:Nat}(h:wl n≤k):ab (n:Rat)≤twP (32*k):=by
 rw[ab_int]
 have h1:=wl_lt n
 have h2:4294967296^wl n≤4294967296^k:=Nat.pow_le_pow_right (by omega) h
 rw[pow_words k] at h2
 unfold twP
 exact Rat.intCast_le_intCast.2 (by omega)
theorem den_pos'(x:Rat):(1:Rat)≤((x.den:Int):Rat):=by
 have:=x.den_pos
 exact Rat.intCast_le_intCast.2 (show (1:Int)≤_ by omega)
theorem ab_ht(x:Rat):ab x≤twP (32*ht x):=by
 have h:=x_den x
 have h1:=int_tw x.num (ht_num x)
 have h2:=den_pos' x
 rw[←h,ab_mul,ab_int] at h1
 have e:(((x.den:Int).natAbs:Int):Rat)=((x.den:Int):Rat):=by congr 1
 rw[e] at h1
 have:=Rat.mul_le_mul_of_nonneg_left h2 (ab_nonneg x)
 grind
theorem nrm_add{R:Rat}(hR:0≤R):∀p q:List Rat,nrm (addL p q) R≤nrm p R+nrm q R
 |[],q=>by rw[addL,nrm];grind
 |a::p,[]=>by rw[addL];show _≤_+0;grind
 |a::p,b::q=>by
  have:=Rat.mul_le_mul_of_nonneg_right (nrm_add hR p q) hR
  have h2:=ab_add a b
  rw[addL,nrm,nrm,nrm];grind
theorem nrm_smul(c R:Rat):∀p:List Rat,nrm (smulL c p) R=ab c*nrm p R
 |[]=>by show(0:Rat)=_*0;grind
 |a::p=>by
  show nrm (smulL c p) R*R+ab (c*a)=_
  rw[nrm_smul c R p,ab_mul,nrm];grind
theorem nrm_mul{R:Rat}(hR:0≤R)(q:List Rat):∀p:List Rat,nrm (mulL p q) R≤nrm p R*nrm q R
 |[]=>by show(0:Rat)≤0*_;grind
 |a::p=>by
  rw[mulL]
  have h1:=nrm_add hR (smulL a q) (0::mulL p q)
  rw[nrm_smul] at h1
  have h2:nrm (0::mulL p q) R=nrm (mulL p q) R*R+ab 0:=rfl
  have h3:=Rat.mul_le_mul_of_nonneg_right (nrm_mul hR q p) hR
  rw[h2,ab_zero] at h1
  rw[nrm]
  grind
theorem nrm_tw{R:Rat}{r c:Nat}(hR:0≤R)(hr:R≤twP r):∀p:List Rat,(∀x∈p,ab x≤twP c)→nrm p R≤twP (c+(r+1)*p.length)
 |[],_=>Rat.le_of_lt (twP_pos _)
 |a::p,h=>by
  have ih:=nrm_tw hR hr p (fun x hx=>h x (List.mem_cons_of_mem _ hx))
  have ha:=h a (List.mem_cons_self ..)
  have h1:=mul_le_mul' ih hr (nrm_nonneg hR p) (Rat.le_of_lt (twP_pos r))
  rw[←twP_add] at h1
  have h2:=twP_mono (show c≤c+(r+1)*p.length+r by omega)
  rw[nrm,List.length_cons,show c+(r+1)*(p.length+1)=c+(r+1)*p.length+r+1 from by rw[Nat.mul_add];omega,twP_succ]
  grind
theorem lip_tw{R:Rat}{r c:Nat}(hR:0≤R)(hr:R≤twP r):∀p:List Rat,(∀x∈p,ab x≤twP c)→lip p R≤twP (c+(r+2)*p.length)
 |[],_=>Rat.le_of_lt (twP_pos _)
 |a::p,h=>by
  have hp:=fun x hx=>h x (List.mem_cons_of_mem a hx)
  have ih:=lip_tw hR hr p hp
  have hn:=nrm_tw hR hr p hp
  have h1:=mul_le_mul' ih hr (lip_nonneg hR p) (Rat.le_of_lt (twP_pos r))
  rw[←twP_add] at h1
  have e1:(r+2)*p.length=(r+1)*p.length+p.length:=by rw[show r+2=r+1+1 from rfl,Nat.add_mul (r+1) 1];omega
  have h2:=twP_mono (show c+(r+1)*p.length≤c+(r+2)*p.length+r by omega)
  have h3:=twP_mono (show c+(r+2)*p.length+r+1≤c+(r+2)*(p.length+1) by rw[Nat.mul_add];omega)
  rw[twP_succ] at h3
  rw[lip,List.length_cons]
  grind
theorem fl_tw{h:Nat}{p:List Rat}(hp:Fl h p):∀x∈p,ab x≤twP (32*h):=fun x hx=>Rat.le_trans (ab_ht x) (twP_mono (by have:=hp x hx;omega))
theorem cofac{a b N r:Nat}{R:Rat}(ha:1≤a)(hab:a≤b)(hR:0≤R)(hr:R≤twP r)(hs:(r+1)*(N+2)+1≤64*a):∀(n i j:Nat) (p d:List Rat),Euc a b N i j p d→d≠[]→Cop p d→d.length<n+1 →
  ∃U V:List Rat,(∀x,evalL U x*evalL p x+evalL V x*evalL d x=1)∧nrm U R≤twP (32*(4*xB a b (N-1)-3*xB a b j))∧nrm V R≤twP (32*(4*xB a b (N-1)-3*xB a b j))
 |0,i,j,p,d,_,h0,_,hl=>absurd (List.eq_nil_of_length_eq_zero (by omega)) h0
 |n+1,i,j,p,d,e,h0,hc,hl=>by
  have hbd:=e.bound
  have hlen:=e.len
  have hd1:=List.length_pos_iff.2 h0
  have hij:=e.lt
  have x1:∀j,1≤xB a b j:=fun j=>Nat.le_trans ha (xB_le a b hab (i:=0) (Nat.zero_le _))
  have hjN:=xB_le a b hab (i:=j) (j:=N-1) (by omega)
  by_cases hrr:trimL (smulL (-1) (restL p d))=[]
  ·obtain⟨c,rfl,hc0⟩:=cop_last e.zq h0 hc hrr
   refine⟨[],[1/c],fun x => ?_,Rat.le_of_lt (twP_pos _),?_⟩
   ·rw[eval_c,eval_c,Rat.div_mul_cancel hc0]
    show 0*_+1=1
    grind
   ·have e1:nrm [1/c] R=ab (1/c):=by show 0*R+_=_;grind
    have hh:=ht_div 1 c
    have hcc:=e.hq.fl (x1 j) c (by simp)
    have hi:=ht_inv c
    have hcv:1/c=c⁻¹:=by rw[Rat.div_def,Rat.one_mul]
    rw[e1]
    refine Rat.le_trans (ab_ht _) (twP_mono ?_)
    rw[hcv]
    omega
  ·obtain⟨r1,r2⟩:=e.rest hab h0
   have hrl:=rest_neg_len (p:=p) e.zq h0
   have hr1:=List.length_pos_iff.2 hrr
   have hcr:Ch (xB a b (j+(p.length-d.length))) (trimL (smulL (-1) (restL p d))):=by
    refine Ch.trim ?_
    obtain⟨D,d1,d2,d3⟩:=r1
    refine⟨D,d1,d2,fun i => ?_⟩
    obtain⟨m,m1,m2⟩:=d3 i
    refine⟨-m,?_,by rw[wl_neg];exact m2⟩
    rw[coef_smulL,Rat.intCast_neg,←m1];grind
   obtain⟨U,V,hUV,hnU,hnV⟩:=cofac ha hab hR hr hs n j _ d _ (e.next hab h0 hcr hrl (lastZ_trimL _)) hrr (cop_next e.zq h0 hc) (by omega)
   have hq:=ht_quot e.hp e.hq (x1 i) (x1 j) e.zq h0
   have hql:=divL_len (p:=p) e.zq h0
   obtain⟨j',rfl⟩:∃j',j=j'+1:=⟨j-1,by omega⟩
   obtain⟨δ,hδ⟩:∃δ,p.length-d.length=δ+1:=⟨p.length-d.length-1,by omega⟩
   have hg:=xB_gap a b hab j' δ
   have hi:=xB_le a b hab (i:=i) (j:=j') (by omega)
   have h0':=xB_le a b hab (i:=0) (j:=j') (by omega)
   have e00:xB a b 0=a:=rfl
   rw[hδ] at hnU hnV
   have hgN:=xB_le a b hab (i:=j'+1+(δ+1)) (j:=N-1) (by omega)
   have hq':xB a b i+(p.length+1-d.length)*(xB a b (j'+1)+1)+xB a b (j'+1)≤xB a b (j'+1+(δ+1))+xB a b (j'+1):=by
    rw[show p.length+1-d.length=δ+2 from by omega];omega
   have hnq:=nrm_tw hR hr _ (fl_tw (fl_mono hq hq'))
   have hqm:(r+1)*(divL p d).1.length≤(r+1)*(N+2):=Nat.mul_le_mul_left _ (by omega)
   have two:2*(xB a b (j'+1)+1)≤(δ+2)*(xB a b (j'+1)+1):=Nat.mul_le_mul_right _ (by omega)
   have hnq2:=Rat.le_trans hnq (twP_mono (show _≤32*(xB a b (j'+1+(δ+1))+xB a b (j'+1))+((r+1)*(N+2)) by omega))
   generalize hS:32*(4*xB a b (N-1)-3*xB a b (j'+1+(δ+1)))=S at hnU hnV
   generalize hQ:32*(xB a b (j'+1+(δ+1))+xB a b (j'+1))+((r+1)*(N+2))=Q at hnq2
   have hT:S+Q+1≤32*(4*xB a b (N-1)-3*xB a b (j'+1)):=by omega
   refine⟨smulL (-1) V,addL U (mulL V (divL p d).1),fun x => ?_,?_,?_⟩
   ·have k1:=hUV x
    have k2:=rest_neg_eval (p:=p) e.zq h0 x
    rw[evalL_smulL,evalL_addL,evalL_mulL]
    have k3:evalL (trimL (smulL (-1) (restL p d))) x=evalL (divL p d).1 x*evalL d x-evalL p x:=by grind
    rw[k3] at k1
    grind
   ·rw[nrm_smul,show ab (-1:Rat)=1 from by decide +kernel,Rat.one_mul]
    exact Rat.le_trans hnV (twP_mono (by omega))
   ·have m1:=nrm_add hR U (mulL V (divL p d).1)
    have m2:=nrm_mul hR (divL p d).1 V
    have m3:=mul_le_mul' hnV hnq2 (nrm_nonneg hR V) (Rat.le_of_lt (twP_pos _))
    rw[←twP_add] at m3
    have m4:=twP_mono (show S≤S+Q by omega)
    have m5:=twP_mono hT
    rw[twP_succ] at m5
    grind
theorem sep_width{f:List Rat}{a N r m:Nat}{R u v:Rat}(ha:1≤a)(e:Euc a (a+1) N 0 1 f (deriveL f))(hf:f≠[])(hc:Cop f (deriveL f))(hR:0≤R)(hr:R≤twP r)(hs:(r+1)*(N+2)+1≤64*a)(hu:ab u≤R)(hv:ab v≤R)(huv:u≤v)
  (hm:32*(4*xB a (a+1) (N-1))+32*(a+1)+(r+2)*f.length+3≤m) (hw:(v-u)*twP m≤1) :
  chg (chainF f.length f (deriveL f)) u-chg (chainF f.length f (deriveL f)) v≤1∧(evalL f u=0→chg (chainF f.length f (deriveL f)) u-chg (chainF f.length f (deriveL f)) v≤0):=by
 by_cases h2:deriveL f=[]
 ·rw[chain_const h2,chain_const h2]
  exact⟨by omega,fun _=>by omega⟩
 ·obtain⟨U,V,hUV,hU,hV⟩:=cofac ha (Nat.le_succ a) hR hr hs f.length 0 1 f (deriveL f) e h2 hc (by have:=e.len;omega)
  generalize hS:32*(4*xB a (a+1) (N-1)-3*xB a (a+1) 1)=S at hU hV
  have hS2:S≤32*(4*xB a (a+1) (N-1)):=by omega
  generalize 32*(4*xB a (a+1) (N-1))=S2 at hm hS2
  have e0:xB a (a+1) 0=a:=rfl
  have e1:xB a (a+1) 1=a+1:=rfl
  have l1:=lip_tw hR hr f (fl_tw (fl_mono (e.hp.fl (by rw[e0];exact ha)) (show xB a (a+1) 0≤a+1 by rw[e0];omega)))
  have l2:=lip_tw hR hr (deriveL f) (fl_tw (e.hq.fl (by rw[e1];omega)))
  rw[e1] at l2
  have hlen:(r+2)*(deriveL f).length≤(r+2)*f.length:=Nat.mul_le_mul_left _ (by have:=e.len;omega)
  have l2':=Rat.le_trans l2 (twP_mono (show 32*(a+1)+(r+2)*(deriveL f).length≤32*(a+1)+(r+2)*f.length by omega))
  generalize hL:32*(a+1)+(r+2)*f.length=L at l1 l2'
  have hp:=twP_pos (S+3)
  have hε:=div_pos' (show (0:Rat)<1 by decide) hp
  have hεe:=Rat.div_mul_cancel (a:=1) (b:=twP (S+3)) (by grind)
  generalize 1/twP (S+3)=ε at hε hεe
  have t1:twP (S+3)=8*twP S:=by rw[twP_add,show twP 3=8 from rfl];grind
  have hw0:0≤v-u:=by grind
  have key:∀l:Rat,0≤l→l≤twP L→l*(v-u)≤ε:=by
   intro l h0 hl
   have k1:=Rat.mul_le_mul_of_nonneg_right hl hw0
   have k2:=Rat.mul_le_mul_of_nonneg_left (twP_mono (show L+(S+3)≤m by omega)) hw0
   rw[twP_add] at k2
   have k3:twP L*(v-u)*twP (S+3)≤1:=by grind
   refine Rat.not_lt.1 fun hlt => ?_
   have k4:ε<twP L*(v-u):=by grind
   have k5:=Rat.mul_lt_mul_of_pos_right k4 hp
   grind
  refine sep (U:=U) (V:=V) (ε:=ε) e.zp hf hc hu hv huv hUV hε ?_ (key _ (lip_nonneg hR _) l1) (key _ (lip_nonneg hR _) l2')
  have k6:=Rat.mul_le_mul_of_nonneg_right (show nrm U R+nrm V R≤twP S+twP S by grind) (show 0≤2*ε by grind)
  rw[t1] at hεe
  have hpS:=Rat.mul_pos hε (twP_pos S)
  grind
end Go.Proofs.YtjadajceekjeoaaGreatDoor.Sym
namespace Go.Proofs.YtjadajceekjeoaaGreatDoor.Sym
open Go Path CInt
set_option linter.unusedVariables false
def ptQ(a w:Rat)(k j:Nat):Rat:=a+w*Rat.divInt (j:Int) ((2^k:Nat):Int)
theorem two_ne(k:Nat):(((2^k:Nat):Int):Rat)≠0:=fun e=>by
 have:=Rat.intCast_inj.1 (show (((2^k:Nat):Int):Rat)=((0:Int):Rat) from e)
 have:=Nat.pow_pos (n:=k) (show 0<2 by omega)
 omega
theorem pt_even(a w:Rat)(k j:Nat):ptQ a w (k+1) (2*j)=ptQ a w k j:=by
 unfold ptQ
 congr 2
 have h:=two_ne k
 have h2:=two_ne (k+1)
 rw[Rat.divInt_eq_div,Rat.divInt_eq_div,Rat.div_def,Rat.div_def]
 have e:(((2^(k+1):Nat):Int):Rat)=(((2^k:Nat):Int):Rat)*2:=by
  rw[show (2:Rat)=((2:Int):Rat) from rfl,←Rat.intCast_mul];congr 1
 have e2:((2*j:Nat):Int)=(j:Int)*2:=by omega
 rw[e,e2,Rat.intCast_mul,show(((2:Int)):Rat)=2 from rfl,Rat.inv_mul_rev]
 have i2:(2:Rat)*2⁻¹=1:=by decide +kernel
 generalize ((((2^k:Nat):Int):Rat))⁻¹=u
 generalize ((j:Int):Rat)=v
 have:v*2*(2⁻¹*u)=v*(2*2⁻¹)*u:=by grind
 rw[this,i2];grind
theorem pt_odd(a w:Rat)(k j:Nat):Rat.divInt 1 2*(ptQ a w k j+ptQ a w k (j+1))=ptQ a w (k+1) (2*j+1):=by
 rw[←pt_even a w k j,←pt_even a w k (j+1)]
 unfold ptQ
 rw[Rat.divInt_eq_div,Rat.divInt_eq_div,Rat.divInt_eq_div,Rat.divInt_eq_div,Rat.div_def,Rat.div_def,Rat.div_def,Rat.div_def]
 generalize ((((2^(k+1):Nat):Int):Rat))⁻¹=u
 have e1:((2*j:Nat):Int)=2*(j:Int):=by omega
 have e2:((2*(j+1):Nat):Int)=2*(j:Int)+2:=by omega
 have e3:((2*j+1:Nat):Int)=2*(j:Int)+1:=by omega
 rw[e1,e2,e3,Rat.intCast_add,Rat.intCast_add,Rat.intCast_mul]
 generalize ((j:Int):Rat)=v
 have i2:((1:Int):Rat)*(((2:Int):Rat))⁻¹=1/2:=by decide +kernel
 rw[i2,show((2:Int):Rat)=2 from rfl,show((1:Int):Rat)=1 from rfl]
 grind
theorem pt_le{w:Rat}(a:Rat)(h:0≤w)(k j:Nat):ptQ a w k j≤ptQ a w k (j+1):=by
 unfold ptQ
 have h2:Rat.divInt (j:Int) ((2^k:Nat):Int)≤Rat.divInt ((j+1:Nat):Int) ((2^k:Nat):Int):=by
  rw[Rat.divInt_eq_div,Rat.divInt_eq_div,Rat.div_def,Rat.div_def]
  refine Rat.mul_le_mul_of_nonneg_right (Rat.intCast_le_intCast.2 (by omega)) (Rat.le_of_lt (Rat.inv_pos.2 ?_))
  have:=Nat.pow_pos (n:=k) (show 0<2 by omega)
  exact Rat.intCast_lt_intCast.2 (show (0:Int)<_ by omega)
 have:=Rat.mul_le_mul_of_nonneg_left h2 h
 grind
theorem wl_two(k:Nat){j:Nat}(hj:j≤2^k):wl (j:Int)≤k/32+1:=by
 refine wl_le ?_
 have h1:2^k<2^(32*(k/32+1)):=Nat.pow_lt_pow_right (by omega) (by omega)
 rw[Nat.pow_mul] at h1
 have h2:(2:Nat)^32=4294967296:=by decide
 rw[h2] at h1
 generalize 4294967296^(k/32+1)=P at h1 ⊢
 omega
theorem pt_ht2(a w:Rat){k j:Nat}(hj:j≤2^k):ht (ptQ a w k j)≤ht a+ht w+k/32+4:=by
 have h3:=ht_divInt (j:Int) ((2^k:Nat):Int)
 have h6:=wl_two k hj
 have h7:=wl_two k (Nat.le_refl (2^k))
 have h8:=ht_mul w (Rat.divInt (j:Int) ((2^k:Nat):Int))
 have h9:=ht_add a (w*Rat.divInt (j:Int) ((2^k:Nat):Int))
 unfold ptQ
 omega
theorem pt_width(a w:Rat)(k j:Nat):ptQ a w k (j+1)-ptQ a w k j=w*Rat.divInt 1 ((2^k:Nat):Int):=by
 unfold ptQ
 rw[Rat.divInt_eq_div,Rat.divInt_eq_div,Rat.divInt_eq_div,Rat.div_def,Rat.div_def,Rat.div_def]
 have e:(((j+1:Nat):Int):Rat)=((j:Int):Rat)+1:=by
  rw[show ((j+1:Nat):Int)=(j:Int)+1 from by omega,Rat.intCast_add];rfl
 have e1:((1:Int):Rat)=1:=rfl
 rw[e,e1]
 generalize ((((2^k:Nat):Int):Rat))⁻¹=u
 grind
theorem pt_zero(a w:Rat):ptQ a w 0 0=a∧ptQ a w 0 1=a+w:=by
 have e0:Rat.divInt ((0:Nat):Int) ((2^0:Nat):Int)=0:=by decide +kernel
 have e1:Rat.divInt ((1:Nat):Int) ((2^0:Nat):Int)=1:=by decide +kernel
 unfold ptQ
 rw[e0,e1]
 constructor<;>grind
def refQ(f:List Rat)(low:Int)(a w wd:Rat):Nat→Nat→Nat→Rat×Rat
 |0,k,j=>(ptQ a w k j,ptQ a w k (j+1))
 |n+1,k,j=>if w*Rat.divInt 1 ((2^k:Nat):Int)≤wd then (ptQ a w k j,ptQ a w k (j+1)) else
  if evalL f (ptQ a w (k+1) (2*j+1))=0 then (ptQ a w (k+1) (2*j+1),ptQ a w (k+1) (2*j+1)) else
  if cmpR (evalL f (ptQ a w (k+1) (2*j+1))) 0=low then refQ f low a w wd n (k+1) (2*j+1) else refQ f low a w wd n (k+1) (2*j)
end Go.Proofs.YtjadajceekjeoaaGreatDoor.Sym
namespace Go.Proofs.YtjadajceekjeoaaGreatDoor.Sym
open Go Path CInt
set_option linter.unusedVariables false
def srchF(G:List (List Rat))(f:List Rat)(a w:Rat):Nat→Nat→Nat→Option (List (Rat×Rat))
 |0,_,_=>none
 |n+1,k,j=>if chg G (ptQ a w k j)-chg G (ptQ a w k (j+1))=0 then some [] else
  if chg G (ptQ a w k j)-chg G (ptQ a w k (j+1))=1∧evalL f (ptQ a w k j)≠0 then
   (if evalL f (ptQ a w k (j+1))=0 then some [(ptQ a w k (j+1),ptQ a w k (j+1))] else some [(ptQ a w k j,ptQ a w k (j+1))])
  else match srchF G f a w n (k+1) (2*j),srchF G f a w n (k+1) (2*j+1) with
   |some x,some y=>some (x++y)
   |_,_=>none
theorem srch_len{G:List (List Rat)}{f:List Rat}{a w:Rat} : ∀(n k j:Nat) (l:List (Rat×Rat)),srchF G f a w n k j=some l→(l.length:Int)=chg G (ptQ a w k j)-chg G (ptQ a w k (j+1))
 |0,_,_,_,h=>by cases h
 |n+1,k,j,l,h=>by
  rw[srchF] at h
  by_cases h0:chg G (ptQ a w k j)-chg G (ptQ a w k (j+1))=0
  ·rw[if_pos h0] at h;injection h with h;subst h;exact h0.symm
  ·rw[if_neg h0] at h
   by_cases h1:chg G (ptQ a w k j)-chg G (ptQ a w k (j+1))=1∧evalL f (ptQ a w k j)≠0
   ·rw[if_pos h1] at h
    split at h<;>(injection h with h;subst h;exact h1.1.symm)
   ·rw[if_neg h1] at h
    cases hx:srchF G f a w n (k+1) (2*j) with
    |none=>rw[hx] at h;cases h
    |some x =>
     cases hy:srchF G f a w n (k+1) (2*j+1) with
     |none=>rw[hx,hy] at h;cases h
     |some y =>
      rw[hx,hy] at h
      injection h with h;subst h
      have i1:=srch_len n _ _ _ hx
      have i2:=srch_len n _ _ _ hy
      rw[pt_even] at i1
      rw[show 2*j+1+1=2*(j+1) from by omega,pt_even] at i2
      rw[List.length_append]
      omega
theorem pt_ge{a w:Rat}(hw:0≤w){k j:Nat} : a≤ptQ a w k j:=by
 unfold ptQ
 have h2:0≤Rat.divInt (j:Int) ((2^k:Nat):Int):=by
  rw[Rat.divInt_eq_div,Rat.div_def]
  refine Rat.mul_nonneg (Rat.intCast_le_intCast.2 (show (0:Int)≤_ by omega)) (Rat.le_of_lt (Rat.inv_pos.2 ?_))
  have:=Nat.pow_pos (n:=k) (show 0<2 by omega)
  exact Rat.intCast_lt_intCast.2 (show (0:Int)<_ by omega)
 have:=Rat.mul_nonneg hw h2
 grind
theorem pt_top(a w:Rat)(k:Nat):ptQ a w k (2^k)=a+w:=by
 unfold ptQ
 rw[Rat.divInt_eq_div,Rat.div_def,Rat.mul_inv_cancel _ (two_ne k)]
 grind
theorem pt_mono{a w:Rat}(hw:0≤w){k i j:Nat}(h:i≤j):ptQ a w k i≤ptQ a w k j:=by
 induction h with
 |refl=>exact Rat.le_refl
 |step _ ih=>exact Rat.le_trans ih (pt_le a hw k _)
theorem srch_some{f:List Rat}{a w:Rat}{K:Nat}(hw:0≤w)(hz:lastZ f=false)(hf:f≠[])(hc:Cop f (deriveL f))
  (hs:∀j,j<2^K→chg (chainF f.length f (deriveL f)) (ptQ a w K j)-chg (chainF f.length f (deriveL f)) (ptQ a w K (j+1))≤1∧(evalL f (ptQ a w K j)=0→chg (chainF f.length f (deriveL f)) (ptQ a w K j)-chg (chainF f.length f (deriveL f)) (ptQ a w K (j+1))≤0)) :
  ∀(n k j:Nat),n+k=K+1→k≤K→j<2^k→∃l,srchF (chainF f.length f (deriveL f)) f a w n k j=some l
 |0,k,j,hn,hk,hj=>by omega
 |n+1,k,j,hn,hk,hj=>by
  have ha:=chg_anti hz hf hc (pt_le a hw k j)
  rw[srchF]
  by_cases h0:chg (chainF f.length f (deriveL f)) (ptQ a w k j)-chg (chainF f.length f (deriveL f)) (ptQ a w k (j+1))=0
  ·exact⟨_,if_pos h0⟩
  ·rw[if_neg h0]
   by_cases h1:chg (chainF f.length f (deriveL f)) (ptQ a w k j)-chg (chainF f.length f (deriveL f)) (ptQ a w k (j+1))=1∧evalL f (ptQ a w k j)≠0
   ·rw[if_pos h1]
    split
    ·exact⟨_,rfl⟩
    ·exact⟨_,rfl⟩
   ·rw[if_neg h1]
    by_cases hkK:k=K
    ·subst hkK
     obtain⟨s1,s2⟩:=hs j hj
     exact absurd ⟨by omega,fun e=>by have:=s2 e;omega⟩ h1
    ·have hp:2^(k+1)=2*2^k:=by rw[Nat.pow_succ];omega
     obtain⟨x,hx⟩:=srch_some hw hz hf hc hs n (k+1) (2*j) (by omega) (by omega) (by omega)
     obtain⟨y,hy⟩:=srch_some hw hz hf hc hs n (k+1) (2*j+1) (by omega) (by omega) (by omega)
     rw[hx,hy]
     exact⟨_,rfl⟩
end Go.Proofs.YtjadajceekjeoaaGreatDoor.Sym
namespace Go.Proofs.YtjadajceekjeoaaGreatDoor.Sym
open Go Path CInt
set_option linter.unusedVariables false
def bndF(m:Rat):Nat→Nat→Nat
 |0,j=>j
 |n+1,j=>if twP j<m then bndF m n (j+1) else j
def bndL(t:Rat):List Rat→Nat→Nat
 |[],j=>j
 |c::r,j=>bndL t r (bndF (1+ab (c/t)) (66-j) j)
def bndP(p:List Rat):Rat:=twP (bndL (topL p) p 0)
theorem bndF_spec{m:Rat}(hm:m≤twP 65):∀n j,n+j=66→j≤65→j≤bndF m n j∧bndF m n j≤65∧m≤twP (bndF m n j)
 |0,j,h,hj=>by omega
 |n+1,j,h,hj=>by
  rw[bndF]
  by_cases hlt:twP j<m
  ·rw[if_pos hlt]
   have:j<65:=by
    refine Nat.lt_of_not_le fun hh => ?_
    have:=twP_mono hh
    grind
   obtain⟨a,b,c⟩:=bndF_spec hm n (j+1) (by omega) (by omega)
   exact⟨by omega,b,c⟩
  ·rw[if_neg hlt]
   exact⟨Nat.le_refl _,hj,by grind⟩
theorem quo_tw{c t:Rat}(hc:ht c≤1)(ht':ht t≤1):1+ab (c/t)≤twP 65:=by
 have h1:=ab_ht (c/t)
 have h2:=ht_div c t
 have h3:=twP_mono (show 32*ht (c/t)≤64 by omega)
 have h4:=twP_ge 64
 have h5:twP 65=twP 64+twP 64:=twP_succ 64
 grind
theorem bndL_spec{t:Rat}(ht':ht t≤1):∀(p:List Rat) (j:Nat),Fl 1 p→j≤65→j≤bndL t p j∧bndL t p j≤65∧∀c∈p,1+ab (c/t)≤twP (bndL t p j)
 |[],j,_,hj=>⟨Nat.le_refl _,hj,fun c h=>by cases h⟩
 |c::r,j,h,hj=>by
  obtain⟨a1,a2,a3⟩:=bndF_spec (quo_tw (h c (List.mem_cons_self ..)) ht') (66-j) j (by omega) hj
  obtain⟨b1,b2,b3⟩:=bndL_spec ht' r _ (fun x hx=>h x (List.mem_cons_of_mem _ hx)) a2
  rw[bndL]
  refine⟨by omega,b2,fun x hx => ?_⟩
  rcases List.mem_cons.1 hx with rfl|hx
  ·exact Rat.le_trans a3 (twP_mono b1)
  ·exact b3 x hx
theorem ht_twP{j:Nat}(h:j≤66):ht (twP j)≤3:=by
 unfold twP
 rw[ht_int]
 refine Nat.max_le.2 ⟨wl_le ?_,by omega⟩
 have h1:2^j<2^96:=Nat.pow_lt_pow_right (by omega) (by omega)
 have h2:(2:Nat)^96=4294967296^3:=by decide
 rw[h2] at h1
 generalize 2^j=x at h1 ⊢
 generalize 4294967296^3=y at h1 ⊢
 omega
theorem top_ht{p:List Rat}(hp:Fl 1 p):ht (topL p)≤1:=by
 unfold topL
 exact fl_coef hp (by omega) _
theorem bnd_ht{p:List Rat}(hp:Fl 1 p):ht (bndP p)≤3:=ht_twP (by have:=(bndL_spec (top_ht hp) p 0 hp (by omega)).2.1;omega)
theorem bnd_pos(p:List Rat):0<bndP p:=twP_pos _
theorem bnd_le(p:List Rat)(hp:Fl 1 p):bndP p≤twP 65:=twP_mono (bndL_spec (top_ht hp) p 0 hp (by omega)).2.1
theorem if_ab(q:Rat):(if q<0 then -q else q)=ab q:=by
 rcases ab_cases q with ⟨h1,h2⟩|⟨h1,h2⟩
 ·rw[if_neg (by grind),h2]
 ·rw[if_pos h1,h2]
theorem get_top{p:List Rat}(h0:p≠[]):(p.map mkR)[p.length-1]? = some (mkR (topL p)):=by
 have:=List.length_pos_iff.2 h0
 have e:p[p.length-1]? = some (topL p):=by
  unfold topL
  rw[coef_get (show p.length-1<p.length by omega)]
 rw[List.getElem?_map,e];rfl
def errC(p:List ARat):Int:=if chk p=0 then (if p.length=0 then 8 else 0) else chk p
theorem free_root{p:List Rat}(hz:lastZ p=false)(h0:p≠[])(x:Rat):evalL p x=0↔evalL (freeL p) x=0:=by
 obtain⟨f1,f2,f3,⟨u,hu⟩,k,hk,v,hv⟩:=free_spec hz h0
 constructor
 ·intro h
  have h1:=hv x
  rw[h,Rat.mul_zero,evalL_powL] at h1
  refine Classical.byContradiction fun hne => ?_
  have:∀n:Nat,evalL (freeL p) x^n≠0:=fun n=>by
   induction n with
   |zero=>rw[Rat.pow_zero];decide
   |succ n ih=>rw[Rat.pow_succ];intro e;rcases Rat.mul_eq_zero.1 e with e|e;exact ih e;exact hne e
  exact this k h1
 ·intro h;rw[hu,h,Rat.mul_zero]
def isoQ(p:List Rat)(lo hi:Rat):Bool:=bif decide (lo=hi) then decide (evalL (freeL p) lo=0) else (decide (sg (evalL (freeL p) lo)*sg (evalL (freeL p) hi) = -1)&&decide (chg (chainL p) lo-chg (chainL p) hi=1))
def isoB(p:List Rat)(r:ARange):Bool:=r.ok&&isoQ p (loG r) (hiG r)
theorem sg_zero{x:Rat} : sg x=0↔x=0:=by rcases sg_cases x with ⟨h1,h2⟩|⟨h1,h2⟩|⟨h1,h2⟩<;>constructor<;>intro h<;>first|exact h1|exact h2|(exfalso;rw[h2] at h;exact absurd h (by decide))|(exfalso;grind)
theorem cmpR_eq0{p q:Rat} : cmpR p q=0↔p=q:=by
 unfold cmpR
 by_cases h1:p<q
 ·rw[if_pos h1];constructor
  ·intro h;exact absurd h (by decide)
  ·intro h;subst h;exact absurd h1 Rat.lt_irrefl
 ·rw[if_neg h1]
  by_cases h2:p=q
  ·rw[if_pos h2];exact⟨fun _=>h2,fun _=>rfl⟩
  ·rw[if_neg h2];exact⟨fun h=>absurd h (by decide),fun h=>absurd h h2⟩
theorem beq_dec{a b:Int}{q:Prop}[Decidable q](h:a=b↔q):(a==b)=decide q:=by
 by_cases hq:q
 ·rw[decide_eq_true hq,h.2 hq];simp
 ·rw[decide_eq_false hq]
  have:a≠b:=fun e=>hq (h.1 e)
  simpa using this
theorem sg_mul_rng(x y:Rat):InI64 (sg x*sg y):=by
 unfold InI64
 rcases sg_three x with h|h|h<;>rcases sg_three y with k|k|k<;>rw[h,k]<;>decide
theorem Fine.free_fl{h L:Nat}{p:List Rat}(f:Fine h L p):Fl 1073741824 (freeL p):=fl_mono (f.free_ch.fl f.fb.2.2.1) f.fb.2.2.2.1
theorem Fine.free_len10{h L:Nat}{p:List Rat}(f:Fine h L p):(freeL p).length≤10:=by have:=f.free_len;have:=f.len;have:=f.hL;omega
theorem Fine.p_fl{h L:Nat}{p:List Rat}(f:Fine h L p):Fl 1073741824 p:=fl_mono (f.ch.fl f.h1) (by have:=f.fb;omega)
theorem Fine.p_len10{h L:Nat}{p:List Rat}(f:Fine h L p):p.length≤10:=by have:=f.len;have:=f.hL;omega
namespace CSt
theorem errOf_c{p:List ARat}(hp:FitP 274877906944 p):Contract prg 46 [polyPV p] (errPV (errOf (errC p))):=check p hp
theorem good{h L:Nat}{p:List Rat}(f:Fine h L p):Contract prg 46 [pq p] .nilI:=by
 have hck:=check (p.map mkR) (fitQ (f.ch.fl f.h1) (by have:=f.fb;omega))
 have hp:=List.length_pos_iff.2 f.ne
 rw[f.chk,if_pos rfl,if_neg (by rw[lenM];omega)] at hck
 exact hck
theorem bad{p:List ARat}(hp:FitP 274877906944 p)(h:errC p≠0):Contract prg 46 [polyPV p] (errPV (some (errC p))):=by
 have:=errOf_c hp
 rwa[errOf_ne h] at this
theorem value(q:List Rat)(x:Rat)(z:lastZ q=false)(fl:Fl 1073741824 q)(ln:q.length≤10)(hx:ht x≤1073741824):Contract prg 64 [pq q,(mkR x).pv] (vI (sg (evalL q x))):=by
 have hev:=CPo.Eval (q.map mkR) (mkR x) (chk_map z (by omega)) (fit_mapk fl) (fit_mkRk hx)
 rw[vals_mkR,mkR_val] at hev
 have h3:=ht_eval q x 1073741824 fl hx
 have h4:q.length*(2*1073741824+1)≤10*(2*1073741824+1):=Nat.mul_le_mul_right _ ln
 exact sturm_value.e0 _ _ _ none _ hev (QF.Sign (evalL q x) (by omega))
theorem Bound{h L:Nat}{p:List Rat}(f:Fine h L p)(h1:Fl 1 p):Contract prg 15 [pq p] (.tup [(mkR (bndP p)).pv,.nilI]):=by
 have hone:=CFr.Of 1 (by unfold InI64;omega)
 have e1:((1:Int):Rat)=1:=rfl
 rw[e1] at hone
 have hlen:=f.p_len10
 have hpos:=List.length_pos_iff.2 f.ne
 have htop:=top_ht h1
 have htn:=top_ne f.zp f.ne
 have loop:∀d t j:Nat,p.length-t=d→t≤p.length→j≤65→sturm_Bound.Loop1 (p.map mkR) t (mkR (twP j)) (.tup [(mkR (twP (bndL (topL p) (p.drop t) j))).pv,.nilI]):=by
  intro d
  induction d with
  |zero =>
   intro t j hd ht hj
   rw[List.drop_of_length_le (by omega)]
   exact sturm_Bound.l12 _ t _ (by rw[lenM];omega)
  |succ d ih =>
   intro t j hd htt hj
   obtain⟨c,hc⟩:∃c,p[t]? = some c:=⟨_,List.getElem?_eq_getElem (by omega)⟩
   have hcm:(p.map mkR)[t]? = some (mkR c):=by rw[List.getElem?_map,hc];rfl
   have hc1:=h1 c (List.mem_of_getElem? hc)
   have hdv:=QF.Div c (topL p) (by omega) (by omega) htn
   have hq:=ht_div c (topL p)
   have hab:=QF.Abs (c/topL p) (by omega)
   rw[if_ab] at hab
   have hqt:=quo_tw hc1 htop
   have hht:ht (ab (c/topL p))≤2:=by
    rw[←if_ab];split
    ·rw[ht_neg];omega
    ·omega
   have hadd:=QF.Add 1 (ab (c/topL p)) (by decide) (by omega)
   have hh1:=ht_add 1 (ab (c/topL p))
   have h11:ht (1:Rat)=1:=by decide
   rw[drop_cons hc,bndL]
   have inner:∀n j,n+j=66→j≤65→sturm_Bound.Loop2 (p.map mkR) t (mkR (twP j)) (mkR (c/topL p)) (.tup [(mkR (twP (bndL (topL p) (p.drop (t+1)) (bndF (1+ab (c/topL p)) n j)))).pv,.nilI]):=by
    intro n
    induction n with
    |zero=>intro j h hj;omega
    |succ n ihn =>
     intro j hn hj
     have hjt:=ht_twP (j:=j) (by omega)
     have hcmp:=QF.Cmp (twP j) (1+ab (c/topL p)) (by omega) (by omega)
     rw[bndF]
     by_cases hlt:twP j<1+ab (c/topL p)
     ·rw[if_pos hlt]
      have hj65:j<65:=by
       refine Nat.lt_of_not_le fun hh => ?_
       have:=twP_mono hh
       grind
      have hd2:=QF.Add (twP j) (twP j) (by omega) (by omega)
      rw[←twP_succ] at hd2
      refine sturm_Bound.l20 _ t _ _ _ _ _ _ _ hone hab hadd hcmp ?_ hd2 (ihn (j+1) (by omega) (by omega))
      refine Int.lt_of_not_ge fun hh => ?_
      have:=cmpR_ge.1 hh
      grind
     ·rw[if_neg hlt]
      exact sturm_Bound.l21 _ t _ _ _ _ _ _ hone hab hadd hcmp (cmpR_ge.2 (by grind)) (by omega) (ih (t+1) j (by omega) (by omega) hj)
   refine sturm_Bound.l10 _ t _ _ (p.length-1) _ _ (by rw[lenM];omega) hcm (by rw[lenM];unfold InI64;omega) (by rw[lenM];omega) (get_top f.ne) hdv (inner (66-j) j (by omega) hj)
 have:=loop _ 0 0 rfl (by omega) (by omega)
 rw[List.drop_zero,twP_zero] at this
 exact sturm_Bound.e0 _ _ (good f) hone this
theorem BoundE{p:List ARat}(hp:FitP 274877906944 p)(h:errC p≠0):Contract prg 15 [polyPV p] (.tup [(⟨false,[],[]⟩:ARat).pv,errPV (some (errC p))]):=sturm_Bound.e1 p _ (bad hp h)
theorem All{h L:Nat}{p:List Rat}(f:Fine h L p)(h1:Fl 1 p):Contract prg 14 [pq p] (.tup [vI (chg (chainL p) (-bndP p)-chg (chainL p) (bndP p)),.nilI]):=by
 have hb:=bnd_ht h1
 have h0:=bnd_pos p
 exact sturm_All.e0 _ _ _ _ none (Bound f h1) (QF.Neg _ (by omega)) (Count f _ _ (by grind) (by rw[ht_neg];omega) (by omega))
theorem isolating{h L:Nat}{p:List Rat}(f:Fine h L p)(r:ARange)(hr:FitG 1073741824 r):Contract prg 61 [pq p,r.pv] (.tup [vB (isoB p r),.nilI]):=by
 have hv:=CIv.Valid r ⟨⟨by omega,by omega⟩,⟨by omega,by omega⟩⟩
 obtain⟨f1,f2,_⟩:=free_spec f.zp f.ne
 cases ho:r.ok with
 |false =>
  rw[ho] at hv
  have:isoB p r=false:=by unfold isoB;rw[ho,Bool.false_and]
  rw[this]
  exact sturm_isolating.e0 _ r _ hv rfl
 |true =>
  rw[ho] at hv
  have hm:=mkG_of ho
  have h1:=ht_loG hr (by omega)
  have h2:=ht_hiG hr (by omega)
  have hle:=loG_le r
  have e0:isoB p r=isoQ p (loG r) (hiG r):=by unfold isoB;rw[ho,Bool.true_and]
  rw[e0]
  generalize loG r=lo at hm h1 hle ⊢
  generalize hiG r=hi at hm h2 hle ⊢
  subst hm
  have hc:=QF.Cmp lo hi (by omega) (by omega)
  unfold isoQ
  by_cases he:lo=hi
  ·rw[decide_eq_true he,cond_true]
   have hval:=value p lo f.zp f.p_fl f.p_len10 h1
   have:=sturm_isolating.e1 _ (mkG lo hi) _ _ _ hv rfl hc (by rw[he];exact cmpR_eq0.2 rfl) hval
   rw[beq_dec (q:=evalL (freeL p) lo=0) (by rw[sg_zero];exact free_root f.zp f.ne lo)] at this
   exact this
  ·rw[decide_eq_false he,cond_false]
   have hne:cmpR lo hi≠0:=fun e=>he (cmpR_eq0.1 e)
   have v1:=value (freeL p) lo f1 f.free_fl f.free_len10 h1
   have v2:=value (freeL p) hi f1 f.free_fl f.free_len10 h2
   by_cases hs:sg (evalL (freeL p) lo)*sg (evalL (freeL p) hi) = -1
   ·rw[decide_eq_true hs,Bool.true_and]
    have:=sturm_isolating.e3 _ (mkG lo hi) _ _ _ _ _ _ none hv rfl hc hne (CPl.Free f) v1 v2 (sg_mul_rng _ _) hs (Count f lo hi hle h1 h2)
    rw[beq_dec (q:=chg (chainL p) lo-chg (chainL p) hi=1) Iff.rfl] at this
    exact this
   ·rw[decide_eq_false hs,Bool.false_and]
    exact sturm_isolating.e2 _ (mkG lo hi) _ _ _ _ _ hv rfl hc hne (CPl.Free f) v1 v2 (sg_mul_rng _ _) hs
theorem Isolating{h L:Nat}{p:List Rat}(f:Fine h L p)(r:ARange)(hr:FitG 1073741824 r):Contract prg 33 [pq p,r.pv] (.tup [vB (isoB p r),.nilI]):=sturm_Isolating.e0 _ r _ none (good f) (isolating f r hr)
theorem IsolatingE{p:List ARat}(hp:FitP 274877906944 p)(h:errC p≠0)(r:ARange):Contract prg 33 [polyPV p,r.pv] (.tup [vB false,errPV (some (errC p))]):=sturm_Isolating.e1 p r _ (bad hp h)
end CSt
namespace CSr
theorem good{h L:Nat}{p:List Rat}(f:Fine h L p):Contract prg 52 [pq p] (vI 0):=by
 have hck:=Error (p.map mkR) (fitQ (f.ch.fl f.h1) (by have:=f.fb;omega))
 have hp:=List.length_pos_iff.2 f.ne
 rw[f.chk,if_pos rfl,if_neg (by rw[lenM];omega)] at hck
 exact hck
theorem bad{p:List ARat}(hp:FitP 274877906944 p):Contract prg 52 [polyPV p] (vI (errC p)):=Error p hp
theorem atS(q:List Rat)(x:Rat)(fl:Fl 1073741824 q)(ln:q.length≤10)(hx:ht x≤1073741824):Contract prg 72 [pq q,(mkR x).pv] (mkR (evalL q x)).pv∧Contract prg 71 [(mkR (evalL q x)).pv] (vI (sg (evalL q x))):=by
 have hev:=CRe.At (q.map mkR) (mkR x) (by rw[lenM];omega) (fit_mapk fl) (fit_mkRk hx)
 rw[vals_mkR,mkR_val] at hev
 have h3:=ht_eval q x 1073741824 fl hx
 have h4:q.length*(2*1073741824+1)≤10*(2*1073741824+1):=Nat.mul_le_mul_right _ ln
 exact⟨hev,QR.Sign (evalL q x) (by omega)⟩
theorem Bound{h L:Nat}{p:List Rat}(f:Fine h L p)(h1:Fl 1 p):Contract prg 18 [pq p] (.tup [(mkR (bndP p)).pv,vI 0]):=by
 have hone:=CRb.Of 1 (by unfold InI64;omega)
 have e1:((1:Int):Rat)=1:=rfl
 rw[e1] at hone
 have hlen:=f.p_len10
 have hpos:=List.length_pos_iff.2 f.ne
 have htop:=top_ht h1
 have htn:=top_ne f.zp f.ne
 have loop:∀d t j:Nat,p.length-t=d→t≤p.length→j≤65→linkworkref06_Bound.Loop1 (p.map mkR) t (mkR (twP j)) (.tup [(mkR (twP (bndL (topL p) (p.drop t) j))).pv,vI 0]):=by
  intro d
  induction d with
  |zero =>
   intro t j hd ht hj
   rw[List.drop_of_length_le (by omega)]
   exact linkworkref06_Bound.l11 _ t _ (by rw[lenM];omega)
  |succ d ih =>
   intro t j hd htt hj
   obtain⟨c,hc⟩:∃c,p[t]? = some c:=⟨_,List.getElem?_eq_getElem (by omega)⟩
   have hcm:(p.map mkR)[t]? = some (mkR c):=by rw[List.getElem?_map,hc];rfl
   have hc1:=h1 c (List.mem_of_getElem? hc)
   have hdv:=QR.Div c (topL p) (by omega) (by omega) htn
   have hq:=ht_div c (topL p)
   have hab:=QR.Abs (c/topL p) (by omega)
   rw[if_ab] at hab
   have hqt:=quo_tw hc1 htop
   have hht:ht (ab (c/topL p))≤2:=by
    rw[←if_ab];split
    ·rw[ht_neg];omega
    ·omega
   have hadd:=QR.Add (ab (c/topL p)) 1 (by omega) (by decide)
   have hh1:=ht_add 1 (ab (c/topL p))
   have h11:ht (1:Rat)=1:=by decide
   rw[Rat.add_comm] at hadd
   rw[drop_cons hc,bndL]
   have inner:∀n j,n+j=66→j≤65→linkworkref06_Bound.Loop2 (p.map mkR) t (mkR (twP j)) (mkR (c/topL p)) (.tup [(mkR (twP (bndL (topL p) (p.drop (t+1)) (bndF (1+ab (c/topL p)) n j)))).pv,vI 0]):=by
    intro n
    induction n with
    |zero=>intro j h hj;omega
    |succ n ihn =>
     intro j hn hj
     have hjt:=ht_twP (j:=j) (by omega)
     have hcmp:=QR.Cmp (twP j) (1+ab (c/topL p)) (by omega) (by omega)
     rw[bndF]
     by_cases hlt:twP j<1+ab (c/topL p)
     ·rw[if_pos hlt]
      have hj65:j<65:=by
       refine Nat.lt_of_not_le fun hh => ?_
       have:=twP_mono hh
       grind
      have hd2:=QR.Add (twP j) (twP j) (by omega) (by omega)
      rw[←twP_succ] at hd2
      refine linkworkref06_Bound.l20 _ t _ _ _ _ _ _ _ hab hone hadd hcmp ?_ hd2 (ihn (j+1) (by omega) (by omega))
      refine Int.lt_of_not_ge fun hh => ?_
      have:=cmpR_ge.1 hh
      grind
     ·rw[if_neg hlt]
      exact linkworkref06_Bound.l21 _ t _ _ _ _ _ _ hab hone hadd hcmp (cmpR_ge.2 (by grind)) (by omega) (ih (t+1) j (by omega) (by omega) hj)
   refine linkworkref06_Bound.l10 _ t _ _ (p.length-1) _ _ _ (by rw[lenM];omega) hcm (by rw[lenM];unfold InI64;omega) (by rw[lenM];omega) (get_top f.ne) hdv (inner (66-j) j (by omega) hj)
 have:=loop _ 0 0 rfl (by omega) (by omega)
 rw[List.drop_zero,twP_zero] at this
 exact linkworkref06_Bound.e1 _ _ _ (good f) rfl hone this
theorem BoundE{p:List ARat}(hp:FitP 274877906944 p)(h:errC p≠0):Contract prg 18 [polyPV p] (.tup [(⟨false,[],[]⟩:ARat).pv,vI (errC p)]):=linkworkref06_Bound.e0 p _ (bad hp) h
theorem sign{h L:Nat}{p:List Rat}(f:Fine h L p)(x:Rat)(hx:ht x≤1073741824):Contract prg 121 [pq p,(mkR x).pv] (vI (sg (evalL (freeL p) x))):=by
 obtain⟨a,b⟩:=atS (freeL p) x f.free_fl f.free_len10 hx
 exact linkworkref06_sign.e0 _ _ _ _ _ _ (CPr.Free f) a b
theorem isolating{h L:Nat}{p:List Rat}(f:Fine h L p)(r:ARange)(hr:FitG 1073741824 r):Contract prg 67 [pq p,r.pv] (vB (isoB p r)):=by
 have hv:=CJv.Valid r ⟨⟨by omega,by omega⟩,⟨by omega,by omega⟩⟩
 cases ho:r.ok with
 |false =>
  rw[ho] at hv
  have:isoB p r=false:=by unfold isoB;rw[ho,Bool.false_and]
  rw[this]
  exact linkworkref06_isolating.e0 _ r _ hv rfl
 |true =>
  rw[ho] at hv
  have hm:=mkG_of ho
  have h1:=ht_loG hr (by omega)
  have h2:=ht_hiG hr (by omega)
  have hle:=loG_le r
  have e0:isoB p r=isoQ p (loG r) (hiG r):=by unfold isoB;rw[ho,Bool.true_and]
  rw[e0]
  generalize loG r=lo at hm h1 hle ⊢
  generalize hiG r=hi at hm h2 hle ⊢
  subst hm
  have hc:=QR.Cmp lo hi (by omega) (by omega)
  unfold isoQ
  have v1:=sign f lo h1
  have v2:=sign f hi h2
  by_cases he:lo=hi
  ·rw[decide_eq_true he,cond_true]
   have:=linkworkref06_isolating.e1 _ (mkG lo hi) _ _ _ hv rfl hc (by rw[he];exact cmpR_eq0.2 rfl) v1
   rw[beq_dec (q:=evalL (freeL p) lo=0) sg_zero] at this
   exact this
  ·rw[decide_eq_false he,cond_false]
   have hne:cmpR lo hi≠0:=fun e=>he (cmpR_eq0.1 e)
   by_cases hs:sg (evalL (freeL p) lo)*sg (evalL (freeL p) hi) = -1
   ·rw[decide_eq_true hs,Bool.true_and]
    have:=linkworkref06_isolating.e2 _ (mkG lo hi) _ _ _ _ _ hv rfl hc hne v1 v2 (sg_mul_rng _ _) hs (count f lo hi h1 h2)
    rw[beq_dec (q:=chg (chainL p) lo-chg (chainL p) hi=1) Iff.rfl] at this
    exact this
   ·rw[decide_eq_false hs,Bool.false_and]
    exact linkworkref06_isolating.e3 _ (mkG lo hi) _ _ _ _ hv rfl hc hne v1 v2 (sg_mul_rng _ _) hs
theorem Isolating{h L:Nat}{p:List Rat}(f:Fine h L p)(r:ARange)(hr:FitG 1073741824 r):Contract prg 35 [pq p,r.pv] (.tup [vB (isoB p r),vI 0]):=linkworkref06_Isolating.e1 _ r _ _ (good f) rfl (isolating f r hr)
theorem IsolatingE{p:List ARat}(hp:FitP 274877906944 p)(h:errC p≠0)(r:ARange):Contract prg 35 [polyPV p,r.pv] (.tup [vB false,vI (errC p)]):=linkworkref06_Isolating.e0 p r _ (bad hp) h
end CSr
end Go.Proofs.YtjadajceekjeoaaGreatDoor.Sym
namespace Go.Proofs.YtjadajceekjeoaaGreatDoor.Sym
open Go Path CInt
set_option linter.unusedVariables false
def mkGs(l:List (Rat×Rat)):List ARange:=l.map (fun r=>mkG r.1 r.2)
theorem mkGs_len(l:List (Rat×Rat)):(mkGs l).length=l.length:=List.length_map ..
theorem mkGs_app(l m:List (Rat×Rat)):mkGs (l++m)=mkGs l++mkGs m:=List.map_append ..
theorem chain_first(p:List Rat):∃r,chainL p=freeL p::r:=chainF_head _ _ _
def isoK(h L:Nat):Nat:=32*(4*xB (fB h L) (fB h L+1) (L-1))+32*(fB h L+1)+67*L+3+67
def IsoOK(h L:Nat):Prop:=66*(L+2)+1≤64*fB h L∧isoK h L/32+20≤1073741824
instance (h L:Nat):Decidable (IsoOK h L):=by unfold IsoOK;infer_instance
def isoL(h L:Nat)(p:List Rat):List (Rat×Rat):=(srchF (chainL p) (freeL p) (-bndP p) (bndP p+bndP p) (isoK h L+1) 0 0).getD []
theorem bnd_two{p:List Rat}(hp:Fl 1 p):bndP p+bndP p≤twP 66∧ht (bndP p+bndP p)≤3:=by
 have h:=(bndL_spec (top_ht hp) p 0 hp (by omega)).2.1
 unfold bndP
 rw[←twP_succ]
 exact⟨twP_mono (by omega),ht_twP (by omega)⟩
theorem tw_inv(k:Nat):Rat.divInt 1 ((2^k:Nat):Int)*twP k=1:=by
 rw[Rat.divInt_eq_div]
 exact Rat.div_mul_cancel (two_ne k)
theorem iso_some{h L:Nat}{p:List Rat}(f:Fine h L p)(h1:Fl 1 p)(ok:IsoOK h L):srchF (chainL p) (freeL p) (-bndP p) (bndP p+bndP p) (isoK h L+1) 0 0=some (isoL h L p):=by
 obtain⟨f1,f2,f3,_⟩:=free_spec f.zp f.ne
 have hb:=bnd_pos p
 have hw:0≤bndP p+bndP p:=by grind
 obtain⟨l,hl⟩:=srch_some (K:=isoK h L) (a := -bndP p) hw f1 f2 f3 (by
  intro j hj
  have w:=pt_width (-bndP p) (bndP p+bndP p) (isoK h L) j
  have k1:=pt_ge (a := -bndP p) hw (k:=isoK h L) (j:=j)
  have k2:=pt_mono (a := -bndP p) hw (k:=isoK h L) (show j+1≤2^isoK h L by omega)
  rw[pt_top] at k2
  have k3:=pt_le (-bndP p) hw (isoK h L) j
  have u1:ab (ptQ (-bndP p) (bndP p+bndP p) (isoK h L) j)≤bndP p:=ab_le (by grind) (by grind)
  have u2:ab (ptQ (-bndP p) (bndP p+bndP p) (isoK h L) (j+1))≤bndP p:=ab_le (by grind) (by grind)
  refine sep_width (r:=65) (m:=isoK h L-67) f.fb.2.2.1 f.free_euc f2 f3 (Rat.le_of_lt hb) (bnd_le p h1) ok.1 u1 u2 k3 ?_ ?_
  ·have hl:=f.free_len
   have hl2:=f.len
   have:(65+2)*(freeL p).length≤67*L:=Nat.mul_le_mul_left _ (by omega)
   unfold isoK
   omega
  ·rw[w]
   have e1:isoK h L=(isoK h L-67)+67:=by unfold isoK;omega
   have e2:=tw_inv (isoK h L)
   have e3:twP (isoK h L)=twP (isoK h L-67)*twP 67:=by rw[←twP_add,←e1]
   have b2:=(bnd_two h1).1
   have e4:=twP_mono (show 66≤67 by omega)
   generalize Rat.divInt 1 ((2^isoK h L:Nat):Int)=δ at e2 ⊢
   rw[e3] at e2
   have hp:=twP_pos (isoK h L-67)
   generalize twP (isoK h L-67)=T at e2 hp ⊢
   have hδ:0≤δ:=by
    refine Rat.not_lt.1 fun hlt => ?_
    have:=Rat.mul_pos hp (twP_pos 67)
    have:=Rat.mul_pos (show 0 < -δ by grind) this
    grind
   have:=Rat.mul_le_mul_of_nonneg_right (Rat.le_trans b2 e4) (Rat.mul_nonneg hδ (Rat.le_of_lt hp))
   grind) (isoK h L+1) 0 0 (by omega) (by omega) (by omega)
 have hl:srchF (chainL p) (freeL p) (-bndP p) (bndP p+bndP p) (isoK h L+1) 0 0=some l:=hl
 unfold isoL
 rw[hl];rfl
namespace CSt
theorem Mid(lo hi:Rat)(h1:ht lo≤1073741824)(h2:ht hi≤1073741824)(hle:lo≤hi):Contract prg 65 [(mkG lo hi).pv] (mkR (Rat.divInt 1 2*(lo+hi))).pv:=by
 have hc:=CIv.clean (mkG lo hi) (fit_mkG (Nat.le_trans h1 (by omega)) (Nat.le_trans h2 (by omega)))
 rw[loG_mk hle,hiG_mk hle] at hc
 have hh:=interval_half.e0 _ none (QF.Make 1 2 (by unfold InI64;omega) (by unfold InI64;omega) (by omega))
 have h3:=ht_add lo hi
 have h4:ht (Rat.divInt 1 2)≤1:=by decide
 exact interval_Mid.e0 _ (mkG lo hi) _ _ _ hc hh (QF.Add lo hi (by omega) (by omega)) (QF.Mul _ _ (by omega) (by omega))
theorem Width(lo hi:Rat)(h1:ht lo≤1073741824)(h2:ht hi≤1073741824)(hle:lo≤hi):Contract prg 39 [(mkG lo hi).pv] (mkR (hi-lo)).pv:=by
 have hc:=CIv.clean (mkG lo hi) (fit_mkG (Nat.le_trans h1 (by omega)) (Nat.le_trans h2 (by omega)))
 rw[loG_mk hle,hiG_mk hle] at hc
 exact interval_Width.e0 _ (mkG lo hi) _ hc (QF.Sub hi lo (by omega) (by omega))
theorem val_ne{p:List Rat}{x:Rat} : sg (evalL p x)≠0↔evalL p x≠0:=not_congr sg_zero
theorem searchG{h L:Nat}{p:List Rat}(f:Fine h L p){a w:Rat}{K:Nat}(hw:0≤w)(hh:ht a+ht w+K/32+4≤1073741824):∀(n k j:Nat) (l:List (Rat×Rat)) (out z:List ARange),n+k=K+1→j<2^k→srchF (chainL p) (freeL p) a w n k j=some l→z=out++mkGs l→z.length≤1000000 →
  ContractX prg 89 [(.row 200000 0 out.length 6),(.pv (pq p)),(.pv (pqs (chainL p))),(.pv (mkR (ptQ a w k j)).pv),(.pv (mkR (ptQ a w k (j+1))).pv)] [(200000,(.pure ((out:List ARange).map ARange.cells).flatten))] (.row 0 0 z.length 6) [(0,(.pure ((z:List ARange).map ARange.cells).flatten))] ∧
  (out=[]→ContractX prg 89 [(.pv .nilS),(.pv (pq p)),(.pv (pqs (chainL p))),(.pv (mkR (ptQ a w k j)).pv),(.pv (mkR (ptQ a w k (j+1))).pv)] [] (.row 0 0 z.length 6) [(0,(.pure ((z:List ARange).map ARange.cells).flatten))])
 |0,k,j,l,out,z,hn,hj,hl,hz,hlen=>by cases hl
 |n+1,k,j,l,out,z,hn,hj,hl,hz,hlen=>by
  have p1:=pt_ht2 a w (k:=k) (j:=j) (by omega)
  have p2:=pt_ht2 a w (k:=k) (j:=j+1) (by omega)
  have hkK:k/32≤K/32:=Nat.div_le_div_right (by omega)
  have hcc:=f.chain_count
  have c1:=changes (chainL p) (ptQ a w k j) (chain_all f) (by omega) (by omega)
  have c2:=changes (chainL p) (ptQ a w k (j+1)) (chain_all f) (by omega) (by omega)
  obtain⟨a1,a2⟩:=chg_range (chainL p) (ptQ a w k j)
  obtain⟨b1,b2⟩:=chg_range (chainL p) (ptQ a w k (j+1))
  have hI:InI64 (chg (chainL p) (ptQ a w k j)-chg (chainL p) (ptQ a w k (j+1))):=by unfold InI64;omega
  have v1:=value p (ptQ a w k j) f.zp f.p_fl f.p_len10 (by omega)
  have v2:=value p (ptQ a w k (j+1)) f.zp f.p_fl f.p_len10 (by omega)
  have r1:=free_root f.zp f.ne (ptQ a w k j)
  have r2:=free_root f.zp f.ne (ptQ a w k (j+1))
  have hle:=pt_le a hw k j
  have hmid:=Mid (ptQ a w k j) (ptQ a w k (j+1)) (by omega) (by omega) hle
  rw[pt_odd] at hmid
  have hpt:=CIv.Point (ptQ a w k (j+1)) (by omega)
  have z1:=QF.addZ (ptQ a w k j) (by omega)
  have z2:=QF.addZ (ptQ a w k (j+1)) (by omega)
  have hj1:2*j<2^(k+1):=by rw[Nat.pow_succ];omega
  have hj2:2*j+1<2^(k+1):=by rw[Nat.pow_succ];omega
  rw[srchF] at hl
  by_cases h0:chg (chainL p) (ptQ a w k j)-chg (chainL p) (ptQ a w k (j+1))=0
  ·rw[if_pos h0] at hl
   injection hl with hl;subst hl
   have:z=out:=by rw[hz];exact List.append_nil _
   subst this
   refine⟨sturm_searchG.e0 z _ _ _ _ _ _ c1 c2 hI h0,fun e => ?_⟩
   subst e
   exact sturm_searchN.e0 _ _ _ _ _ _ c1 c2 hI h0
  ·rw[if_neg h0] at hl
   have recu:∀l1 l2:List (Rat×Rat),srchF (chainL p) (freeL p) a w n (k+1) (2*j)=some l1→srchF (chainL p) (freeL p) a w n (k+1) (2*j+1)=some l2→z=(out++mkGs l1)++mkGs l2 →
     ContractX prg 89 [(.row 200000 0 out.length 6),(.pv (pq p)),(.pv (pqs (chainL p))),(.pv (mkR (ptQ a w k j)).pv),(.pv (mkR (ptQ a w (k+1) (2*j+1))).pv)] [(200000,(.pure ((out:List ARange).map ARange.cells).flatten))] (.row 0 0 (out++mkGs l1).length 6) [(0,(.pure (((out++mkGs l1):List ARange).map ARange.cells).flatten))] ∧
     ContractX prg 89 [(.row 200000 0 (out++mkGs l1).length 6),(.pv (pq p)),(.pv (pqs (chainL p))),(.pv (mkR (ptQ a w (k+1) (2*j+1))).pv),(.pv (mkR (ptQ a w k (j+1))).pv)] [(200000,(.pure (((out++mkGs l1):List ARange).map ARange.cells).flatten))] (.row 0 0 z.length 6) [(0,(.pure ((z:List ARange).map ARange.cells).flatten))]:=by
    intro l1 l2 e1 e2 ez
    have hz1:(out++mkGs l1).length≤1000000:=by
     rw[ez,List.length_append] at hlen;omega
    have i1:=(searchG f hw hh n (k+1) (2*j) l1 out (out++mkGs l1) (by omega) hj1 e1 rfl hz1).1
    have i2:=(searchG f hw hh n (k+1) (2*j+1) l2 (out++mkGs l1) z (by omega) hj2 e2 ez hlen).1
    rw[pt_even] at i1
    rw[show 2*j+1+1=2*(j+1) from by omega,pt_even] at i2
    exact⟨i1,i2⟩
   have split:∀l',(match srchF (chainL p) (freeL p) a w n (k+1) (2*j),srchF (chainL p) (freeL p) a w n (k+1) (2*j+1) with
     |some x,some y=>some (x++y)
     |_,_=>none)=some l'→∃l1 l2,srchF (chainL p) (freeL p) a w n (k+1) (2*j)=some l1∧srchF (chainL p) (freeL p) a w n (k+1) (2*j+1)=some l2∧l'=l1++l2:=by
    intro l' h
    cases hx:srchF (chainL p) (freeL p) a w n (k+1) (2*j) with
    |none=>rw[hx] at h;cases h
    |some x =>
     cases hy:srchF (chainL p) (freeL p) a w n (k+1) (2*j+1) with
     |none=>rw[hx,hy] at h;cases h
     |some y=>rw[hx,hy] at h;injection h with h;exact⟨x,y,rfl,rfl,h.symm⟩
   by_cases h1:chg (chainL p) (ptQ a w k j)-chg (chainL p) (ptQ a w k (j+1))=1
   ·by_cases h2:evalL (freeL p) (ptQ a w k j)=0
    ·rw[if_neg (fun e=>e.2 h2)] at hl
     obtain⟨l1,l2,e1,e2,e3⟩:=split _ hl
     have ez:z=(out++mkGs l1)++mkGs l2:=by rw[hz,e3,mkGs_app,List.append_assoc]
     obtain⟨i1,i2⟩:=recu l1 l2 e1 e2 ez
     refine⟨sturm_searchG.e3 out _ _ _ _ _ _ _ _ (out++mkGs l1) z c1 c2 hI h0 h1 v1 (sg_zero.2 (r1.2 h2)) hmid i1 i2,fun e => ?_⟩
     subst e
     exact sturm_searchN.e3 _ _ _ _ _ _ _ _ ([]++mkGs l1) z c1 c2 hI h0 h1 v1 (sg_zero.2 (r1.2 h2)) hmid i1 i2
    ·rw[if_pos ⟨h1,h2⟩] at hl
     have n1:sg (evalL p (ptQ a w k j))≠0:=val_ne.2 (fun e=>h2 (r1.1 e))
     by_cases h3:evalL (freeL p) (ptQ a w k (j+1))=0
     ·rw[if_pos h3] at hl
      injection hl with hl;subst hl
      have ez:z=out++[mkG (ptQ a w k (j+1)) (ptQ a w k (j+1))]:=hz
      subst ez
      refine⟨sturm_searchG.e1 out _ _ _ _ _ _ _ _ _ c1 c2 hI h0 h1 v1 n1 v2 (sg_zero.2 (r2.2 h3)) hpt (by omega),fun e => ?_⟩
      subst e
      exact sturm_searchN.e1 _ _ _ _ _ _ _ _ _ c1 c2 hI h0 h1 v1 n1 v2 (sg_zero.2 (r2.2 h3)) hpt (by omega)
     ·rw[if_neg h3] at hl
      injection hl with hl;subst hl
      have n2:sg (evalL p (ptQ a w k (j+1)))≠0:=val_ne.2 (fun e=>h3 (r2.1 e))
      have ez:z=out++[mkG (ptQ a w k j) (ptQ a w k (j+1))]:=hz
      subst ez
      refine⟨sturm_searchG.e2 out _ _ _ _ _ _ _ _ _ _ c1 c2 hI h0 h1 v1 n1 v2 n2 z1 z2 (by rw[show (⟨mkR (ptQ a w k j),mkR (ptQ a w k (j+1))⟩:ARange)=mkG (ptQ a w k j) (ptQ a w k (j+1)) from rfl];omega),fun e => ?_⟩
      subst e
      exact sturm_searchN.e2 _ _ _ _ _ _ _ _ _ _ c1 c2 hI h0 h1 v1 n1 v2 n2 z1 z2 (by rw[show (⟨mkR (ptQ a w k j),mkR (ptQ a w k (j+1))⟩:ARange)=mkG (ptQ a w k j) (ptQ a w k (j+1)) from rfl];omega)
   ·rw[if_neg (fun e=>h1 e.1)] at hl
    obtain⟨l1,l2,e1,e2,e3⟩:=split _ hl
    have ez:z=(out++mkGs l1)++mkGs l2:=by rw[hz,e3,mkGs_app,List.append_assoc]
    obtain⟨i1,i2⟩:=recu l1 l2 e1 e2 ez
    refine⟨sturm_searchG.e4 out _ _ _ _ _ _ _ (out++mkGs l1) z c1 c2 hI h0 h1 hmid i1 i2,fun e => ?_⟩
    subst e
    exact sturm_searchN.e4 _ _ _ _ _ _ _ ([]++mkGs l1) z c1 c2 hI h0 h1 hmid i1 i2
theorem iso_ht{h L:Nat}{p:List Rat}(h1:Fl 1 p)(ok:IsoOK h L):ht (-bndP p)+ht (bndP p+bndP p)+isoK h L/32+4≤1073741824:=by
 have a:=bnd_ht h1
 have b:=(bnd_two h1).2
 have c:=ok.2
 rw[ht_neg]
 omega
theorem iso_len{h L:Nat}{p:List Rat}(f:Fine h L p)(h1:Fl 1 p)(ok:IsoOK h L):((isoL h L p).length:Int)=chg (chainL p) (-bndP p)-chg (chainL p) (bndP p):=by
 have:=srch_len _ _ _ _ (iso_some f h1 ok)
 rwa[(pt_zero _ _).1,(pt_zero _ _).2,show -bndP p+(bndP p+bndP p)=bndP p from by grind] at this
theorem iso_len2{h L:Nat}{p:List Rat}(f:Fine h L p)(h1:Fl 1 p)(ok:IsoOK h L):(isoL h L p).length≤1000:=by
 have e:=iso_len f h1 ok
 have hcc:=f.chain_count
 obtain⟨a1,a2⟩:=chg_range (chainL p) (-bndP p)
 obtain⟨b1,b2⟩:=chg_range (chainL p) (bndP p)
 omega
theorem Isolate{h L:Nat}{p:List Rat}(f:Fine h L p)(h1:Fl 1 p)(ok:IsoOK h L):Contract prg 32 [pq p] (.tup [lpv ARange.cells (mkGs (isoL h L p)),.nilI]):=by
 have hb:=bnd_pos p
 have hn:=bnd_ht h1
 have hs:=(searchG f (show 0≤bndP p+bndP p by grind) (iso_ht h1 ok) (isoK h L+1) 0 0 (isoL h L p) [] (mkGs (isoL h L p)) (by omega) (by omega) (iso_some f h1 ok) rfl (by rw[mkGs_len];have:=iso_len2 f h1 ok;omega)).2 rfl
 rw[(pt_zero _ _).1,(pt_zero _ _).2,show -bndP p+(bndP p+bndP p)=bndP p from by grind] at hs
 exact sturm_Isolate.e0 _ _ _ _ _ (Bound f h1) (chain f) (QF.Neg _ (by omega)) hs
theorem IsolateE{p:List ARat}(hp:FitP 274877906944 p)(h:errC p≠0):Contract prg 32 [polyPV p] (.tup [lpv ARange.cells [],errPV (some (errC p))]):=sturm_Isolate.e2 p _ _ (BoundE hp h)
end CSt
namespace CSr
theorem given(lo hi:Rat)(h1:ht lo≤68719476736)(h2:ht hi≤68719476736)(hle:lo≤hi):Contract prg 127 [(mkG lo hi).pv] (mkG lo hi).pv:=by
 have hv:=CJv.Valid (mkG lo hi) (fit_mkG h1 h2)
 rw[ok_mkG hle] at hv
 exact linkworkref03_given.e1 _ _ hv rfl
theorem Mid(lo hi:Rat)(h1:ht lo≤1073741824)(h2:ht hi≤1073741824)(hle:lo≤hi):Contract prg 74 [(mkG lo hi).pv] (mkR (Rat.divInt 1 2*(lo+hi))).pv:=by
 have h3:=ht_add lo hi
 have h4:ht (Rat.divInt 1 2)≤1:=by decide
 exact linkworkref03_Mid.e0 _ (mkG lo hi) _ _ _ _ (given lo hi (by omega) (by omega) hle) (QR.Make 1 2 (by unfold InI64;omega) (by unfold InI64;omega) (by omega)) (QR.Add lo hi (by omega) (by omega)) (QR.Mul _ _ (by omega) (by omega))
theorem search{h L:Nat}{p:List Rat}(f:Fine h L p){a w:Rat}{K:Nat}(hw:0≤w)(hh:ht a+ht w+K/32+4≤1073741824):∀(n k j:Nat) (l:List (Rat×Rat)),n+k=K+1→j<2^k→srchF (chainL p) (freeL p) a w n k j=some l→l.length≤1000000 →
  ContractX prg 90 [(.pv (pqs (chainL p))),(.pv (mkR (ptQ a w k j)).pv),(.pv (mkR (ptQ a w k (j+1))).pv)] [] (.row 0 0 (mkGs l).length 6) [(0,(.pure ((mkGs l:List ARange).map ARange.cells).flatten))] ∧
  Contract prg 90 [(pqs (chainL p)),(mkR (ptQ a w k j)).pv,(mkR (ptQ a w k (j+1))).pv] (lpv ARange.cells (mkGs l))
 |0,k,j,l,hn,hj,hl,hlen=>by cases hl
 |n+1,k,j,l,hn,hj,hl,hlen=>by
  have p1:=pt_ht2 a w (k:=k) (j:=j) (by omega)
  have p2:=pt_ht2 a w (k:=k) (j:=j+1) (by omega)
  have hkK:k/32≤K/32:=Nat.div_le_div_right (by omega)
  have hcc:=f.chain_count
  have c1:=changes (chainL p) (ptQ a w k j) (CSt.chain_all f) (by omega) (by omega)
  have c2:=changes (chainL p) (ptQ a w k (j+1)) (CSt.chain_all f) (by omega) (by omega)
  obtain⟨a1,a2⟩:=chg_range (chainL p) (ptQ a w k j)
  obtain⟨b1,b2⟩:=chg_range (chainL p) (ptQ a w k (j+1))
  have hI:InI64 (chg (chainL p) (ptQ a w k j)-chg (chainL p) (ptQ a w k (j+1))):=by unfold InI64;omega
  obtain⟨v1,s1⟩:=atS (freeL p) (ptQ a w k j) f.free_fl f.free_len10 (by omega)
  obtain⟨v2,s2⟩:=atS (freeL p) (ptQ a w k (j+1)) f.free_fl f.free_len10 (by omega)
  have hf:((chainL p).map (fun g=>g.map mkR))[0]? = some ((freeL p).map mkR):=by
   obtain⟨r,e⟩:=chain_first p
   rw[e];rfl
  have hle:=pt_le a hw k j
  have hmid:=Mid (ptQ a w k j) (ptQ a w k (j+1)) (by omega) (by omega) hle
  rw[pt_odd] at hmid
  have hj1:2*j<2^(k+1):=by rw[Nat.pow_succ];omega
  have hj2:2*j+1<2^(k+1):=by rw[Nat.pow_succ];omega
  rw[srchF] at hl
  by_cases h0:chg (chainL p) (ptQ a w k j)-chg (chainL p) (ptQ a w k (j+1))=0
  ·rw[if_pos h0] at hl
   injection hl with hl;subst hl
   exact⟨linkworkref06_searchX.e0 _ _ _ _ _ c1 c2 hI h0,linkworkref06_search.e0 _ _ _ _ _ c1 c2 hI h0⟩
  ·rw[if_neg h0] at hl
   have recu:∀l1 l2:List (Rat×Rat),srchF (chainL p) (freeL p) a w n (k+1) (2*j)=some l1→srchF (chainL p) (freeL p) a w n (k+1) (2*j+1)=some l2→l=l1++l2 →
     ContractX prg 90 [(.pv (pqs (chainL p))),(.pv (mkR (ptQ a w k j)).pv),(.pv (mkR (ptQ a w (k+1) (2*j+1))).pv)] [] (.row 0 0 (mkGs l1).length 6) [(0,(.pure ((mkGs l1:List ARange).map ARange.cells).flatten))] ∧
     Contract prg 90 [(pqs (chainL p)),(mkR (ptQ a w (k+1) (2*j+1))).pv,(mkR (ptQ a w k (j+1))).pv] (lpv ARange.cells (mkGs l2))∧(mkGs l1++mkGs l2).length*112≤140737488355328:=by
    intro l1 l2 e1 e2 ez
    have hz:l1.length+l2.length≤1000000:=by rw[ez,List.length_append] at hlen;omega
    have i1:=(search f hw hh n (k+1) (2*j) l1 (by omega) hj1 e1 (by omega)).1
    have i2:=(search f hw hh n (k+1) (2*j+1) l2 (by omega) hj2 e2 (by omega)).2
    rw[pt_even] at i1
    rw[show 2*j+1+1=2*(j+1) from by omega,pt_even] at i2
    exact⟨i1,i2,by rw[List.length_append,mkGs_len,mkGs_len];omega⟩
   have split:∀l',(match srchF (chainL p) (freeL p) a w n (k+1) (2*j),srchF (chainL p) (freeL p) a w n (k+1) (2*j+1) with
     |some x,some y=>some (x++y)
     |_,_=>none)=some l'→∃l1 l2,srchF (chainL p) (freeL p) a w n (k+1) (2*j)=some l1∧srchF (chainL p) (freeL p) a w n (k+1) (2*j+1)=some l2∧l'=l1++l2:=by
    intro l' h
    cases hx:srchF (chainL p) (freeL p) a w n (k+1) (2*j) with
    |none=>rw[hx] at h;cases h
    |some x =>
     cases hy:srchF (chainL p) (freeL p) a w n (k+1) (2*j+1) with
     |none=>rw[hx,hy] at h;cases h
     |some y=>rw[hx,hy] at h;injection h with h;exact⟨x,y,rfl,rfl,h.symm⟩
   by_cases h1:chg (chainL p) (ptQ a w k j)-chg (chainL p) (ptQ a w k (j+1))=1
   ·by_cases h2:evalL (freeL p) (ptQ a w k j)=0
    ·rw[if_neg (fun e=>e.2 h2)] at hl
     obtain⟨l1,l2,e1,e2,e3⟩:=split _ hl
     obtain⟨i1,i2,i3⟩:=recu l1 l2 e1 e2 e3
     rw[e3,mkGs_app]
     exact⟨linkworkref06_searchX.e3 _ _ _ _ _ _ _ _ _ (mkGs l1) _ (mkGs l2) c1 c2 hI h0 h1 hf v1 s1 (sg_zero.2 h2) hmid i1 i2 rfl i3,linkworkref06_search.e3 _ _ _ _ _ _ _ _ _ (mkGs l1) _ (mkGs l2) c1 c2 hI h0 h1 hf v1 s1 (sg_zero.2 h2) hmid i1 i2 rfl i3⟩
    ·rw[if_pos ⟨h1,h2⟩] at hl
     have n1:sg (evalL (freeL p) (ptQ a w k j))≠0:=CSt.val_ne.2 h2
     by_cases h3:evalL (freeL p) (ptQ a w k (j+1))=0
     ·rw[if_pos h3] at hl
      injection hl with hl;subst hl
      exact⟨linkworkref06_searchX.e1 _ _ _ _ _ _ _ _ _ _ c1 c2 hI h0 h1 hf v1 s1 n1 v2 s2 (sg_zero.2 h3),linkworkref06_search.e1 _ _ _ _ _ _ _ _ _ _ c1 c2 hI h0 h1 hf v1 s1 n1 v2 s2 (sg_zero.2 h3)⟩
     ·rw[if_neg h3] at hl
      injection hl with hl;subst hl
      exact⟨linkworkref06_searchX.e2 _ _ _ _ _ _ _ _ _ _ c1 c2 hI h0 h1 hf v1 s1 n1 v2 s2 (CSt.val_ne.2 h3),linkworkref06_search.e2 _ _ _ _ _ _ _ _ _ _ c1 c2 hI h0 h1 hf v1 s1 n1 v2 s2 (CSt.val_ne.2 h3)⟩
   ·rw[if_neg (fun e=>h1 e.1)] at hl
    obtain⟨l1,l2,e1,e2,e3⟩:=split _ hl
    obtain⟨i1,i2,i3⟩:=recu l1 l2 e1 e2 e3
    rw[e3,mkGs_app]
    exact⟨linkworkref06_searchX.e4 _ _ _ _ _ _ (mkGs l1) _ (mkGs l2) c1 c2 hI h0 h1 hmid i1 i2 rfl i3,linkworkref06_search.e4 _ _ _ _ _ _ (mkGs l1) _ (mkGs l2) c1 c2 hI h0 h1 hmid i1 i2 rfl i3⟩
theorem Isolate{h L:Nat}{p:List Rat}(f:Fine h L p)(h1:Fl 1 p)(ok:IsoOK h L):Contract prg 34 [pq p] (.tup [lpv ARange.cells (mkGs (isoL h L p)),vI 0]):=by
 have hb:=bnd_pos p
 have hn:=bnd_ht h1
 have hs:=(search f (show 0≤bndP p+bndP p by grind) (CSt.iso_ht h1 ok) (isoK h L+1) 0 0 (isoL h L p) (by omega) (by omega) (iso_some f h1 ok) (by have:=CSt.iso_len2 f h1 ok;omega)).2
 rw[(pt_zero _ _).1,(pt_zero _ _).2,show -bndP p+(bndP p+bndP p)=bndP p from by grind] at hs
 exact linkworkref06_Isolate.e1 _ _ _ _ _ _ (Bound f h1) rfl (chain f) (QR.Neg _ (by omega)) hs
theorem IsolateE{p:List ARat}(hp:FitP 274877906944 p)(h:errC p≠0):Contract prg 34 [polyPV p] (.tup [lpv ARange.cells [],vI (errC p)]):=linkworkref06_Isolate.e0 p _ _ (BoundE hp h) h
end CSr
end Go.Proofs.YtjadajceekjeoaaGreatDoor.Sym
namespace Go.Proofs.YtjadajceekjeoaaGreatDoor.Sym
open Go Path CInt
set_option linter.unusedVariables false
def hfP(n:Nat):Rat:=Rat.divInt 1 ((2^n:Nat):Int)
theorem hfP_zero:hfP 0=1:=by decide +kernel
theorem hfP_tw(n:Nat):hfP n*twP n=1:=tw_inv n
theorem hfP_pos(n:Nat):0<hfP n:=by
 refine Rat.not_le.1 fun hle => ?_
 have h1:=hfP_tw n
 have h2:=Rat.mul_nonneg (show 0 ≤ -hfP n by grind) (Rat.le_of_lt (twP_pos n))
 grind
theorem hfP_succ(n:Nat):hfP n*Rat.divInt 1 2=hfP (n+1):=by
 have h1:=hfP_tw n
 have h2:=hfP_tw (n+1)
 have e:Rat.divInt 1 2+Rat.divInt 1 2=1:=by decide +kernel
 rw[twP_succ] at h2
 have h3:=hfP_pos n
 have h4:=hfP_pos (n+1)
 have h5:hfP (n+1)*(twP n+twP n)*hfP n=hfP n:=by rw[h2];grind
 have h6:hfP (n+1)*(hfP n*twP n+hfP n*twP n)=hfP n:=by grind
 rw[h1] at h6
 have h7:hfP n=hfP (n+1)+hfP (n+1):=by grind
 rw[h7]
 generalize hfP (n+1)=x
 generalize Rat.divInt 1 2=y at e
 have:(x+x)*y=x*(y+y):=by grind
 rw[this,e];grind
theorem hfP_ht{n:Nat}(h:n≤1000):ht (hfP n)≤40:=by
 have h1:=ht_divInt (1:Int) ((2^n:Nat):Int)
 have h2:=wl_two n (Nat.le_refl (2^n))
 have h3:wl (1:Int)≤1:=by decide
 unfold hfP
 omega
theorem srch_ht{G:List (List Rat)}{f:List Rat}{a w:Rat}{K:Nat} : ∀(n k j:Nat) (l:List (Rat×Rat)),n+k=K+1→j<2^k→srchF G f a w n k j=some l→∀r∈l,ht r.1≤ht a+ht w+K/32+4∧ht r.2≤ht a+ht w+K/32+4
 |0,_,_,_,_,_,h=>by cases h
 |n+1,k,j,l,hn,hj,h=>by
  have p1:=pt_ht2 a w (k:=k) (j:=j) (by omega)
  have p2:=pt_ht2 a w (k:=k) (j:=j+1) (by omega)
  have hkK:k/32≤K/32:=Nat.div_le_div_right (by omega)
  rw[srchF] at h
  split at h
  ·injection h with h;subst h;intro r hr;cases hr
  ·split at h
   ·split at h
    ·injection h with h;subst h;intro r hr;rw[List.mem_singleton] at hr;subst hr;exact⟨by simp only;omega,by simp only;omega⟩
    ·injection h with h;subst h;intro r hr;rw[List.mem_singleton] at hr;subst hr;exact⟨by simp only;omega,by simp only;omega⟩
   ·cases hx:srchF G f a w n (k+1) (2*j) with
    |none=>rw[hx] at h;cases h
    |some x =>
     cases hy:srchF G f a w n (k+1) (2*j+1) with
     |none=>rw[hx,hy] at h;cases h
     |some y =>
      rw[hx,hy] at h
      injection h with h;subst h
      have hp:2^(k+1)=2*2^k:=by rw[Nat.pow_succ];omega
      intro r hr
      rcases List.mem_append.1 hr with hr|hr
      ·exact srch_ht n (k+1) (2*j) x (by omega) (by omega) hx r hr
      ·exact srch_ht n (k+1) (2*j+1) y (by omega) (by omega) hy r hr
theorem iso_hts{h L:Nat}{p:List Rat}(f:Fine h L p)(h1:Fl 1 p)(ok:IsoOK h L):∀r∈isoL h L p,ht r.1≤1073741824∧ht r.2≤1073741824:=by
 intro r hr
 have a:=srch_ht (K:=isoK h L) _ 0 0 _ (by omega) (by omega) (iso_some f h1 ok) r hr
 have b:=CSt.iso_ht h1 ok
 omega
def G2(r:Rat×Rat):ARange:=mkG r.1 r.2
def refR(p:List Rat)(lo hi:Rat)(bits e:Nat):Rat×Rat:=refQ (freeL p) (sg (evalL (freeL p) lo)) lo (hi-lo) (hfP bits) (bits+e) 0 0
structure RefOK (lo hi:Rat) (bits e:Nat):Prop where
 le:lo≤hi
 w:hi-lo≤twP e
 h1:ht lo≤1073741824
 h2:ht hi≤1073741824
 hh:ht lo+ht (hi-lo)+(bits+e)/32+4≤1073741824
 hb:bits≤256
theorem ref_fin{w:Rat}{b e:Nat}(hw:w≤twP e):w*Rat.divInt 1 ((2^(b+e):Nat):Int)≤hfP b:=by
 have h1:=hfP_tw (b+e)
 have h2:=hfP_tw b
 have p1:=hfP_pos (b+e)
 show w*hfP (b+e)≤hfP b
 have h3:=Rat.mul_le_mul_of_nonneg_right hw (Rat.le_of_lt p1)
 rw[twP_add] at h1
 have p2:=hfP_pos b
 have e1:twP e*hfP (b+e)=hfP b:=by
  have:hfP b*(hfP (b+e)*(twP b*twP e))=(hfP b*twP b)*(twP e*hfP (b+e)):=by grind
  rw[h1,h2] at this;grind
 rw[e1] at h3
 exact h3
namespace CSt
theorem ref_loop{f:List Rat}(z:lastZ f=false)(fl:Fl 1073741824 f)(ln:f.length≤10){a w wd:Rat}{K:Nat}(low:Int)(hw:0≤w)(hh:ht a+ht w+K/32+4≤1073741824)(hwd:ht wd≤1000)(hK:w*Rat.divInt 1 ((2^K:Nat):Int)≤wd) :
  ∀(n k j:Nat),n+k=K→j<2^k→sturm_Refine.Loop2 (f.map mkR) low (mkG (ptQ a w k j) (ptQ a w k (j+1))) (mkR wd) (.tup [(G2 (refQ f low a w wd n k j)).pv,.nilI]):=by
 have stop:∀k j,k≤K→j<2^k→w*Rat.divInt 1 ((2^k:Nat):Int)≤wd→sturm_Refine.Loop2 (f.map mkR) low (mkG (ptQ a w k j) (ptQ a w k (j+1))) (mkR wd) (.tup [(mkG (ptQ a w k j) (ptQ a w k (j+1))).pv,.nilI]):=by
  intro k j hk hj hle
  have p1:=pt_ht2 a w (k:=k) (j:=j) (by omega)
  have p2:=pt_ht2 a w (k:=k) (j:=j+1) (by omega)
  have hkK:k/32≤K/32:=Nat.div_le_div_right hk
  have hl:=pt_le a hw k j
  have hwi:=Width (ptQ a w k j) (ptQ a w k (j+1)) (by omega) (by omega) hl
  have h3:=ht_sub (ptQ a w k (j+1)) (ptQ a w k j)
  have hc:=QF.Cmp (ptQ a w k (j+1)-ptQ a w k j) wd (by omega) (by omega)
  exact sturm_Refine.l23 _ _ _ _ _ _ hwi hc (cmpR_le.2 (by rw[pt_width];exact hle))
 intro n
 induction n with
 |zero =>
  intro k j hn hj
  have:k=K:=by omega
  subst this
  rw[refQ]
  exact stop k j (Nat.le_refl _) hj hK
 |succ n ih =>
  intro k j hn hj
  rw[refQ]
  by_cases hle:w*Rat.divInt 1 ((2^k:Nat):Int)≤wd
  ·rw[if_pos hle]
   exact stop k j (by omega) hj hle
  ·rw[if_neg hle]
   have p1:=pt_ht2 a w (k:=k) (j:=j) (by omega)
   have p2:=pt_ht2 a w (k:=k) (j:=j+1) (by omega)
   have hj2:2*j+1<2^(k+1):=by rw[Nat.pow_succ];omega
   have p3:=pt_ht2 a w (k:=k+1) (j:=2*j+1) (by omega)
   have hkK:k/32≤K/32:=Nat.div_le_div_right (by omega)
   have hkK2:(k+1)/32≤K/32:=Nat.div_le_div_right (by omega)
   have hl:=pt_le a hw k j
   have hwi:=Width (ptQ a w k j) (ptQ a w k (j+1)) (by omega) (by omega) hl
   have h3:=ht_sub (ptQ a w k (j+1)) (ptQ a w k j)
   have hc:=QF.Cmp (ptQ a w k (j+1)-ptQ a w k j) wd (by omega) (by omega)
   have hgt:0<cmpR (ptQ a w k (j+1)-ptQ a w k j) wd:=by
    refine Int.lt_of_not_ge fun hh=>hle ?_
    have:=cmpR_le.1 hh
    rwa[pt_width] at this
   have hm:=Mid (ptQ a w k j) (ptQ a w k (j+1)) (by omega) (by omega) hl
   rw[pt_odd] at hm
   have hv:=value f (ptQ a w (k+1) (2*j+1)) z fl ln (by omega)
   by_cases h0:evalL f (ptQ a w (k+1) (2*j+1))=0
   ·rw[if_pos h0]
    exact sturm_Refine.l20 _ _ _ _ _ _ _ _ _ hwi hc hgt hm hv (sg_zero.2 h0) (CIv.Point _ (by omega))
   ·rw[if_neg h0]
    have n0:=val_ne.2 h0
    by_cases hs:cmpR (evalL f (ptQ a w (k+1) (2*j+1))) 0=low
    ·rw[if_pos hs]
     have:=ih (k+1) (2*j+1) (by omega) hj2
     rw[show 2*j+1+1=2*(j+1) from by omega,pt_even] at this
     exact sturm_Refine.l21 _ _ _ _ _ _ _ _ hwi hc hgt hm hv n0 hs this
    ·rw[if_neg hs]
     have:=ih (k+1) (2*j) (by omega) (by omega)
     rw[pt_even] at this
     exact sturm_Refine.l22 _ _ _ _ _ _ _ _ hwi hc hgt hm hv n0 hs this
theorem Refine{h L:Nat}{p:List Rat}(f:Fine h L p){lo hi:Rat}{bits e:Nat}(ok:RefOK lo hi bits e)(hi':isoQ p lo hi=true):Contract prg 21 [pq p,(mkG lo hi).pv,vI (bits:Int)] (.tup [(G2 (refR p lo hi bits e)).pv,.nilI]):=by
 obtain⟨f1,f2,_⟩:=free_spec f.zp f.ne
 have hle:=ok.le
 have h1:=ok.h1
 have h2:=ok.h2
 have hb:=ok.hb
 have hiso:=isolating f (mkG lo hi) (fit_mkG h1 h2)
 have hB:isoB p (mkG lo hi)=true:=by unfold isoB;rw[ok_mkG hle,loG_mk hle,hiG_mk hle,hi'];rfl
 have hone:=CFr.Of 1 (by unfold InI64;omega)
 have e1:((1:Int):Rat)=hfP 0:=by rw[hfP_zero];rfl
 rw[e1] at hone
 have hmk:=QF.Make 1 2 (by unfold InI64;omega) (by unfold InI64;omega) (by omega)
 have hhf:ht (Rat.divInt 1 2)≤1:=by decide
 have fin:sturm_Refine.Loop2 ((freeL p).map mkR) (sg (evalL (freeL p) lo)) (mkG lo hi) (mkR (hfP bits)) (.tup [(G2 (refR p lo hi bits e)).pv,.nilI]):=by
  have:=ref_loop f1 f.free_fl f.free_len10 (sg (evalL (freeL p) lo)) (show 0≤hi-lo by grind) ok.hh (Nat.le_trans (hfP_ht (show bits≤1000 by omega)) (by omega)) (ref_fin ok.w) (bits+e) 0 0 (by omega) (by omega)
  rw[(pt_zero _ _).1,(pt_zero _ _).2,show lo+(hi-lo)=hi from by grind] at this
  exact this
 have hull:=CIv.Hull (mkG lo hi) (mkG lo hi) (fit_mkG (by omega) (by omega)) (fit_mkG (by omega) (by omega))
 rw[loG_mk hle,hiG_mk hle,minR_self,maxR_self] at hull
 have hval:=value (freeL p) lo f1 f.free_fl f.free_len10 h1
 have loop:∀d t:Nat,t+d=bits→sturm_Refine.Loop1 ((freeL p).map mkR) (bits:Int) t (mkG lo hi) (mkR (hfP t)) (mkR (Rat.divInt 1 2)) (.tup [(G2 (refR p lo hi bits e)).pv,.nilI]):=by
  intro d
  induction d with
  |zero =>
   intro t ht
   have:t=bits:=by omega
   subst this
   exact sturm_Refine.l11 _ _ _ _ _ _ _ _ (by omega) hull hval fin
  |succ d ih =>
   intro t ht'
   have hm:=QF.Mul (hfP t) (Rat.divInt 1 2) (by have:=hfP_ht (show t≤1000 by omega);omega) (by omega)
   rw[hfP_succ] at hm
   exact sturm_Refine.l10 _ _ _ _ _ _ _ (by omega) hm (by omega) (ih (t+1) (by omega))
 rw[hB] at hiso
 exact sturm_Refine.e3 _ _ _ _ _ _ _ none (good f) (by omega) (by omega) hiso rfl (CPl.Free f) hone hmk (loop bits 0 (by omega))
end CSt
end Go.Proofs.YtjadajceekjeoaaGreatDoor.Sym
namespace Go.Proofs.YtjadajceekjeoaaGreatDoor.Sym.Lay
open Go Go.Shelf Go.Proofs
set_option maxRecDepth 20000
def ren:Ren:=⟨fun n=>match n with|129=>198|156=>168|165=>179|166=>180|169=>182|171=>166|240=>189|241=>190|243=>176|246=>185|276=>195|277=>196|283=>191|284=>192|285=>193|286=>194|317=>197|318=>199|319=>200|320=>201|337=>202|338=>203|n=>n,
 fun n=>match n with|0=>0|2=>2|3=>3|4=>4|5=>5|9=>9|20=>20|31=>160|37=>173|46=>148|51=>83|53=>147|70=>172|72=>175|75=>31|76=>32|80=>179|127=>186|164=>192|171=>187|173=>190|212=>197|213=>198|232=>201|233=>202|n=>n,
 fun n=>match n with|17=>0|18=>2|19=>3|n=>n⟩
theorem lays156:Lays.n156 Tryz.prog ren where
 mixed:=by kernel_rfl
 f156:=Tryz.func168.trans (congrArg some (by kernel_rfl))
 f165:=Tryz.func179.trans (congrArg some (by kernel_rfl))
 f166:=Tryz.func180.trans (congrArg some (by kernel_rfl))
 f169:=Tryz.func182.trans (congrArg some (by kernel_rfl))
 f240:=Tryz.func189.trans (congrArg some (by kernel_rfl))
 f241:=Tryz.func190.trans (congrArg some (by kernel_rfl))
 f276:=Tryz.func195.trans (congrArg some (by kernel_rfl))
 f277:=Tryz.func196.trans (congrArg some (by kernel_rfl))
 t0:=Tryz.underlying0
 a0:=Tryz.isAgg0
 z0:=Tryz.sizeOf0
 v0:=Tryz.zeroValue0
 t3:=Tryz.underlying3
 a3:=Tryz.isAgg3
 z3:=Tryz.sizeOf3
 v3:=Tryz.zeroValue3
 t4:=Tryz.underlying4
 a4:=Tryz.isAgg4
 z4:=Tryz.sizeOf4
 v4:=Tryz.zeroValue4
 t9:=Tryz.underlying9
 a9:=Tryz.isAgg9
 z9:=Tryz.sizeOf9
 v9:=Tryz.zeroValue9
 t20:=Tryz.underlying20
 a20:=Tryz.isAgg20
 z20:=Tryz.sizeOf20
 v20:=Tryz.zeroValue20
 t31:=Tryz.underlying160
 a31:=Tryz.isAgg160
 z31:=Tryz.sizeOf160
 v31:=Tryz.zeroValue160
 t37:=Tryz.underlying173
 a37:=Tryz.isAgg173
 z37:=Tryz.sizeOf173
 v37:=Tryz.zeroValue173
 t70:=Tryz.underlying172
 a70:=Tryz.isAgg172
 z70:=Tryz.sizeOf172
 v70:=Tryz.zeroValue172
 t72:=Tryz.underlying175
 a72:=Tryz.isAgg175
 z72:=Tryz.sizeOf175
 v72:=Tryz.zeroValue175
 t75:=Tryz.underlying31
 a75:=Tryz.isAgg31
 z75:=Tryz.sizeOf31
 v75:=Tryz.zeroValue31
 t76:=Tryz.underlying32
 a76:=Tryz.isAgg32
 z76:=Tryz.sizeOf32
 v76:=Tryz.zeroValue32
 t127:=Tryz.underlying186
 a127:=Tryz.isAgg186
 z127:=Tryz.sizeOf186
 v127:=Tryz.zeroValue186
 t164:=Tryz.underlying192
 a164:=Tryz.isAgg192
 z164:=Tryz.sizeOf192
 v164:=Tryz.zeroValue192
theorem lays171:Lays.n171 Tryz.prog ren where
 mixed:=by kernel_rfl
 f129:=Tryz.func198.trans (congrArg some (by kernel_rfl))
 f171:=Tryz.func166.trans (congrArg some (by kernel_rfl))
 f243:=Tryz.func176.trans (congrArg some (by kernel_rfl))
 f246:=Tryz.func185.trans (congrArg some (by kernel_rfl))
 f283:=Tryz.func191.trans (congrArg some (by kernel_rfl))
 f284:=Tryz.func192.trans (congrArg some (by kernel_rfl))
 f285:=Tryz.func193.trans (congrArg some (by kernel_rfl))
 f286:=Tryz.func194.trans (congrArg some (by kernel_rfl))
 f317:=Tryz.func197.trans (congrArg some (by kernel_rfl))
 f318:=Tryz.func199.trans (congrArg some (by kernel_rfl))
 f319:=Tryz.func200.trans (congrArg some (by kernel_rfl))
 f320:=Tryz.func201.trans (congrArg some (by kernel_rfl))
 f337:=Tryz.func202.trans (congrArg some (by kernel_rfl))
 f338:=Tryz.func203.trans (congrArg some (by kernel_rfl))
 t0:=Tryz.underlying0
 a0:=Tryz.isAgg0
 z0:=Tryz.sizeOf0
 v0:=Tryz.zeroValue0
 t2:=Tryz.underlying2
 a2:=Tryz.isAgg2
 z2:=Tryz.sizeOf2
 v2:=Tryz.zeroValue2
 t3:=Tryz.underlying3
 a3:=Tryz.isAgg3
 z3:=Tryz.sizeOf3
 v3:=Tryz.zeroValue3
 t4:=Tryz.underlying4
 a4:=Tryz.isAgg4
 z4:=Tryz.sizeOf4
 v4:=Tryz.zeroValue4
 t5:=Tryz.underlying5
 a5:=Tryz.isAgg5
 z5:=Tryz.sizeOf5
 v5:=Tryz.zeroValue5
 t9:=Tryz.underlying9
 a9:=Tryz.isAgg9
 z9:=Tryz.sizeOf9
 v9:=Tryz.zeroValue9
 t20:=Tryz.underlying20
 a20:=Tryz.isAgg20
 z20:=Tryz.sizeOf20
 v20:=Tryz.zeroValue20
 t37:=Tryz.underlying173
 a37:=Tryz.isAgg173
 z37:=Tryz.sizeOf173
 v37:=Tryz.zeroValue173
 t46:=Tryz.underlying148
 a46:=Tryz.isAgg148
 z46:=Tryz.sizeOf148
 v46:=Tryz.zeroValue148
 t51:=Tryz.underlying83
 a51:=Tryz.isAgg83
 z51:=Tryz.sizeOf83
 v51:=Tryz.zeroValue83
 t53:=Tryz.underlying147
 a53:=Tryz.isAgg147
 z53:=Tryz.sizeOf147
 v53:=Tryz.zeroValue147
 t171:=Tryz.underlying187
 a171:=Tryz.isAgg187
 z171:=Tryz.sizeOf187
 v171:=Tryz.zeroValue187
 t173:=Tryz.underlying190
 a173:=Tryz.isAgg190
 z173:=Tryz.sizeOf190
 v173:=Tryz.zeroValue190
 t212:=Tryz.underlying197
 a212:=Tryz.isAgg197
 z212:=Tryz.sizeOf197
 v212:=Tryz.zeroValue197
 t213:=Tryz.underlying198
 a213:=Tryz.isAgg198
 z213:=Tryz.sizeOf198
 t232:=Tryz.underlying201
 a232:=Tryz.isAgg201
 z232:=Tryz.sizeOf201
 v232:=Tryz.zeroValue201
 t233:=Tryz.underlying202
 a233:=Tryz.isAgg202
 z233:=Tryz.sizeOf202
 v233:=Tryz.zeroValue202
 g17:=by kernel_rfl
 g18:=by kernel_rfl
 g19:=by kernel_rfl
theorem extra:Builder.Extra Tryz.prog ren where
 sizeBuilder:=by kernel_rfl
 liesBuilder:=by kernel_rfl
 t5:=Tryz.underlying5
 a5:=Tryz.isAgg5
 z5:=Tryz.sizeOf5
 v5:=Tryz.zeroValue5
 infoByte:=by kernel_rfl
 cellsByte:=by kernel_rfl
 sizeByte:=by kernel_rfl
 neB5:=by decide
end Go.Proofs.YtjadajceekjeoaaGreatDoor.Sym.Lay
namespace Go.Proofs.YtjadajceekjeoaaGreatDoor.Sym
open Go Go.RowKit
set_option linter.unusedVariables false
theorem Callable.mk' {P : Program} {f : FuncId} {fn : Func} (h : P.funcs[f]? = some fn) (hb : (fn.body.isSome && !(fn.name == "runtime.NumGoroutine")) = true) : Callable P f := by
  rw [Bool.and_eq_true, Bool.not_eq_true'] at hb
  exact ⟨fn, h, hb.1, hb.2⟩
theorem Contract.ofCalls{P:Program}{f:FuncId}{args:List PV}{r:PV}(hc:Callable P f)
  (h:∀(I:Nat→Prop) (w:World) (vs:Array Value),(∀b,I b→b<w.heap.size)→args.length=vs.size →
   (∀(j:Nat) p v,args[j]? = some p→vs[j]? = some v→Rd I w p v) →
   Calls P f vs w (fun e w'=>∃v,e = .returned v∧Rd (fun b=>I b∨fresh w w' b) w' r v∧Below w.heap.size w w')):Contract P f args r:=by
 refine⟨hc,fun I w β vs hI _ hl hr=>(h I w vs hI (by simpa using hl) (fun j p v hp hv=>hr j (.pv p) v (by rw[List.getElem?_map,hp];rfl) hv)).mono ?_⟩
 rintro e w' ⟨v,he,hv,hb⟩
 refine⟨v,β,he,fun _ _ _=>rfl,Keeps.of_below ⟨hb,fun s=>by unfold Str at s;exact s.elim⟩,⟨(fun r sc h=>by cases h),(fun r r' b h=>by unfold dom at h;cases h)⟩,?_,(fun x b h=>by unfold dom at h;cases h)⟩
 exact Rd.mono hv (fun b hb=>hb.imp id (fun hf=>⟨Or.inl hf,(fun x hx=>by unfold dom at hx;cases hx)⟩)) (fun _ _ _=>rfl)
theorem rdv_int{I:Nat→Prop}{w:World}{k:IntKind}{n:Int}{v:Value}(h:Rd I w (.int k n) v):v = .int k n:=by cases h;rfl
theorem rdv_str{I:Nat→Prop}{w:World}{s:ByteArray}{v:Value}(h:Rd I w (.str s) v):v = .string s:=by cases h;rfl
def dig(n:Nat):ByteArray:=⟨(Lib.decDigits n).toArray⟩
theorem Itoa_small(n:Nat)(h:n<100):Contract prg 166 [vI (n:Int)] (.str (dig n)):=by
 refine Contract.ofCalls (Callable.mk' Tryz.func166 (by kernel_rfl)) (fun I w vs hI hl hr => ?_)
 obtain⟨v,rfl⟩:∃v,vs = #[v]:=by
  match vs,hl with
  |⟨[v]⟩,_=>exact⟨v,rfl⟩
 have hv:=rdv_int (hr 0 _ v rfl rfl)
 subst hv
 refine Calls.mono (Any.strconv_Itoa_small Lay.lays171 n h w) ?_
 rintro e w' ⟨he,rfl⟩
 exact⟨_,he,.str _,Below.refl _ _⟩
def joinB(l:List ByteArray)(sep:ByteArray):ByteArray:=⟨(Lib.join (l.map (·.data.toList)) sep.data.toList).toArray⟩
theorem Join(l:List ByteArray)(sep:ByteArray)(hn:l.length≤140737488355328)(hlen:(Lib.join (l.map (·.data.toList)) sep.data.toList).length≤140737488355328) :
  Contract prg 168 [lpv strCell l,.str sep] (.str (joinB l sep)):=by
 refine Contract.ofCalls (Callable.mk' Tryz.func168 (by kernel_rfl)) (fun I w vs hI hl hr => ?_)
 obtain⟨v,u,rfl⟩:∃v u,vs = #[v,u]:=by
  match vs,hl with
  |⟨[v,u]⟩,_=>exact⟨v,u,rfl⟩
 have hu:=rdv_str (hr 1 _ u rfl rfl)
 subst hu
 have hv:Rd I w (.list (l.map strCell)) v:=hr 0 _ v rfl rfl
 cases l with
 |nil =>
  have:∃a c,v = .slice a 0 c:=by
   generalize hx:(PV.list (([]:List ByteArray).map strCell))=x at hv
   cases hv with
   |nil a c=>exact⟨a,c,rfl⟩
   |list xs b o c s f hc hb hs ho h =>
    injection hx with hx
    subst hx
    exact⟨_,c,rfl⟩
   |_=>cases hx
  obtain⟨a,c,rfl⟩:=this
  refine Calls.mono (Any.strings_Join_none Lay.lays156 Lay.extra a c sep w) ?_
  rintro e w' ⟨he,rfl⟩
  exact⟨_,he,.str _,Below.refl _ _⟩
 |cons x0 r =>
  have:∃b o c,v = .slice (some ⟨b,o,none⟩) (x0::r).length c∧(x0::r).length≤c∧I b∧∀(j:Nat) x,(x0::r)[j]? = some x→w.cell? ⟨b,o+j,none⟩=some (.string x):=by
   generalize hx:(PV.list ((x0::r).map strCell))=x at hv
   cases hv with
   |list xs b o c s f hc hb hs ho h =>
    injection hx with hx
    subst hx
    have hs1:s=1:=by
     have:=hs 0 _ rfl
     simpa[strCell] using this.symm
    subst hs1
    refine⟨b,o,c,by rw[List.length_map],by simpa using hc,hb,fun j x hj => ?_⟩
    have hrow:((x0::r).map strCell)[j]? = some (strCell x):=by rw[List.getElem?_map,hj];rfl
    have h1:=(ho j 0 _ (.str x) hrow rfl).2
    have h2:=rdv_str (h j 0 _ (.str x) hrow rfl)
    rw[h2] at h1
    simpa using h1
   |_=>cases hx
  obtain⟨b,o,c,rfl,hc,hb,hcell⟩:=this
  refine Calls.mono (Any.strings_Join Lay.lays156 Lay.extra b o c (x0::r) sep w hcell (hI b hb) hn hc hlen) ?_
  rintro e w' ⟨he,hw⟩
  exact⟨_,he,.str _,hw⟩
end Go.Proofs.YtjadajceekjeoaaGreatDoor.Sym
namespace Go.Proofs.YtjadajceekjeoaaGreatDoor.Sym
open Go Path CInt
set_option linter.unusedVariables false
def numT(n:Int):ByteArray:=if n<0 then ByteArray.mk #[45]++dig n.natAbs else dig n.natAbs
def ratT(q:Rat):ByteArray:=if (q.den:Int)=1 then numT q.num else numT q.num++ByteArray.mk #[47]++numT (q.den:Int)
theorem dig_small{n:Nat}(h:n<10):dig n=ByteArray.mk #[UInt8.ofNat (48+n)]:=by
 unfold dig
 rw[Lib.decDigits,dif_pos h]
theorem dig_size{n:Nat}(h:n<1000000000):(dig n).size≤10:=by
 have key:∀(k n:Nat),n<10^(k+1)→(Lib.decDigits n).length≤k+1:=by
  intro k
  induction k with
  |zero =>
   intro n h
   rw[Lib.decDigits,dif_pos (by omega)]
   exact Nat.le_refl _
  |succ k ih =>
   intro n h
   by_cases h9:n<10
   ·rw[Lib.decDigits,dif_pos h9];simp
   ·rw[Lib.decDigits,dif_neg h9,List.length_append,List.length_singleton]
    have:=ih (n/10) (by rw[Nat.pow_succ] at h;omega)
    omega
 have:=key 8 n (by omega)
 show(Lib.decDigits n).toArray.size≤10
 rw[List.size_toArray]
 omega
theorem join_one(x sep:ByteArray):joinB [x] sep=x:=by
 unfold joinB
 rw[List.map_cons,List.map_nil,Lib.join_one]
theorem numT_size{n:Int}(h:n.natAbs<1000000000):(numT n).size≤11:=by
 have:=dig_size h
 unfold numT
 split
 ·rw[ByteArray.size_append]
  have e:(ByteArray.mk #[45]).size=1:=rfl
  omega
 ·omega
namespace CTx
theorem iText(n:Int)(h:n.natAbs<1000000000)(hI:n≠0→Contract prg 166 [vI (n.natAbs:Int)] (.str (dig n.natAbs))):Contract prg 146 [(whole n).pv] (.str (numT n)):=by
 have hl:(words n.natAbs).length≤1:=len_of_lt (by omega)
 have hfit:Fit (whole n).mag:=by
  show Fit (words n.natAbs)
  unfold Fit
  omega
 have hm:=CInt.mag (whole n) hfit
 have hn:=CInt.neg (whole n) hfit
 rw[whole_val] at hm hn
 by_cases h0:n=0
 ·subst h0
  have e:numT 0=ByteArray.mk #[48]:=by
   unfold numT
   rw[if_neg (by omega),show Int.natAbs 0=0 from rfl,dig_small (by omega)];rfl
  rw[e]
  exact integer_Text.e0 _ _ hm rfl
 ·have hw:(words n.natAbs).length≠0:=fun e=>h0 (by have:=words_len0.1 e;omega)
  have hs:=CInt.short (words n.natAbs) (1000000000:UInt32) (by omega) (by decide)
  rw[nat_words,show(1000000000:UInt32).toNat=1000000000 from rfl,Nat.div_eq_of_lt h,Nat.mod_eq_of_lt h,words_zero] at hs
  have hv:(UInt32.ofNat n.natAbs).toNat=n.natAbs:=by
   rw[w_ofNat]
   exact Nat.mod_eq_of_lt (by omega)
  have hi:Contract prg 166 [vI ((UInt32.ofNat n.natAbs).toNat:Int)] (.str (dig n.natAbs)):=by
   rw[hv];exact hI h0
  have hd:=dig_size h
  have hj:=Join [dig n.natAbs] (ByteArray.mk #[]) (by simp) (by
   rw[List.map_cons,List.map_nil,Lib.join_one,Array.length_toList]
   have:(dig n.natAbs).data.size=(dig n.natAbs).size:=rfl
   omega)
  rw[join_one] at hj
  have hN:integer_Text.Loop1 [] [dig n.natAbs] (whole n) (.str (numT n)):=by
   by_cases hneg:n<0
   ·have:=integer_Text.l12 [] _ _ _ _ (by simp) hj hn (decide_eq_true hneg) (by
     have e:(ByteArray.mk #[45]).size=1:=rfl
     omega)
    unfold numT
    rw[if_pos hneg]
    exact this
   ·have:=integer_Text.l13 [] _ _ _ _ (by simp) hj hn (decide_eq_false hneg)
    unfold numT
    rw[if_neg hneg]
    exact this
  exact integer_Text.e1 _ _ hm hw (integer_Text.l11 _ [] _ _ _ _ (by omega) hs hi (by simp) (by simp) hN)
theorem iText_small(n:Int)(h:n.natAbs<100):Contract prg 146 [(whole n).pv] (.str (numT n)):=iText n (by omega) (fun _=>Itoa_small _ h)
theorem fText(q:Rat)(h1:q.num.natAbs<1000000000)(h2:q.den<1000000000)(hN:Contract prg 146 [(whole q.num).pv] (.str (numT q.num)))(hD:Contract prg 146 [(whole (q.den:Int)).pv] (.str (numT (q.den:Int)))):Contract prg 99 [(mkR q).pv] (.str (ratT q)):=by
 have l1:wl q.num≤1:=len_of_lt (by omega)
 have l2:wl (q.den:Int)≤1:=len_of_lt (by rw[Int.natAbs_natCast];omega)
 have hh:ht q≤1:=Nat.max_le.2 ⟨l1,l2⟩
 have hp:=CFr.Parts (mkR q) (fit_mkR (by omega))
 rw[mkR_val] at hp
 have hc:=CInt.Cmp (whole (q.den:Int)) (whole 1) (show Fit (whole (q.den:Int)).mag from Nat.le_trans l2 (by omega)) (by decide)
 rw[whole_val,whole_val] at hc
 have s1:=numT_size h1
 have s2:=numT_size (n:=(q.den:Int)) (by rw[Int.natAbs_natCast];exact h2)
 by_cases hd:(q.den:Int)=1
 ·have:=fraction_Text.e0 _ _ _ _ _ _ hp CFr.one hc (by rw[hd];rfl) hN
  unfold ratT
  rw[if_pos hd]
  exact this
 ·have e:(ByteArray.mk #[47]).size=1:=rfl
  have hc0:cmpI (q.den:Int) 1≠0:=by
   unfold cmpI
   intro hx
   split at hx
   ·cases hx
   ·omega
  have:=fraction_Text.e1 _ _ _ _ _ _ _ hp CFr.one hc hc0 hN (by omega) hD (by rw[ByteArray.size_append];omega)
  unfold ratT
  rw[if_neg hd]
  exact this
theorem fText_small(q:Rat)(h1:q.num.natAbs<100)(h2:q.den<100):Contract prg 99 [(mkR q).pv] (.str (ratT q)) :=
 fText q (by omega) (by omega) (iText_small _ h1) (iText_small _ (by rw[Int.natAbs_natCast];exact h2))
end CTx
end Go.Proofs.YtjadajceekjeoaaGreatDoor.Sym
namespace Go.Proofs.YtjadajceekjeoaaGreatDoor.Sym.Path
open Go
set_option maxRecDepth 20000
set_option linter.unusedVariables false
namespace linkworklaw06_SturmIsolates
@[reducible] noncomputable def fn:Func:=Tryz.f7
noncomputable def atK1:List Itm:=focus [0,2,0,0,2,1,2,0,2,0,2,0,2,0,2,0,0,2,1,2,0,0,2,0,0] [.code (bodyOf fn)]
def inv1(iso iso4:List ARange)(t_77:Nat):St:=⟨[(5,(.pv (lpv ARange.cells iso))),(9,(.pv (lpv ARange.cells iso4))),(76,(eI (iso.length:Int))),(77,(eI (t_77:Int)))],[]⟩
@[reducible] noncomputable def Loop1(iso iso4:List ARange)(t_77:Nat)(r:PV):Prop:=L prg fn atK1 (inv1 iso iso4 t_77) r
theorem e0(p:List ARat)(rV:ARange)(sho awa:Bool)(h1:Contract prg 10 [(polyPV p)] (vB sho))(h2:sho=false)(h3:Contract prg 12 [] (vB awa)):Contract prg 7 [(polyPV p),rV.pv] (vB awa) :=
 Contract.ofL Tryz.func7 (by kernel_rfl) (L.done mixed tabOk (n:=84) (ns:=[1,1,1,1,1,1,1,1,1,1,1,1]) (tr:=[.reg [],.reg [.none,(.pv (vB sho)),.none,.none,.skip,.skip,.skip,.skip,.skip,.skip,.skip,(.dec true),.none,.skip,.skip],.auto,.reg [(.pv (vB awa))]]) (cj h1 (cj (bnot_t h2) (cj (bnot_t h2) (cj (bnot_t h2) (cj (bnot_t h2) (cj (bnot_t h2) (cj (bnot_t h2) (cj (bnot_t h2) (cj (bnot_t h2) (cj (Eq.refl true) (cj (Eq.refl true) (cj h3 True.intro)))))))))))) (by kernel_rfl))
theorem e1(p:List ARat)(rV:ARange)(sho bri awa:Bool)(h1:Contract prg 10 [(polyPV p)] (vB sho))(h2:sho=true)(h3:Contract prg 11 [(polyPV [rV.lo,rV.hi])] (vB bri))(h4:bri=false)(h5:Contract prg 12 [] (vB awa)):Contract prg 7 [(polyPV p),rV.pv] (vB awa) :=
 Contract.ofL Tryz.func7 (by kernel_rfl) (L.done mixed tabOk (n:=84) (ns:=[1,1,1,1,1,1,3,1,1,1,1,1,1,1,1]) (tr:=[.reg [],.reg [.none,(.pv (vB sho)),.none,.none,.none,.none,.none,.none,(.slc 0 0 (([rV.lo,rV.hi]:List ARat).map ARat.cells)),(.pv (vB bri)),.none,(.dec false),.none,.skip,.skip,(.dec true)],.auto,.reg [(.pv (vB awa))]]) (cj h1 (cj (bnot_f h2) (cj (bnot_f h2) (cj (bnot_f h2) (cj (bnot_f h2) (cj (bnot_f h2) (cj (o_bs sz_ARat ([rV.lo,rV.hi]:List ARat)) (cj (bnot_f h2) (cj h3 (cj (bnot_f h2) (cj (bnot_f h2) (cj (bnot_t h4) (cj (bnot_t h4) (cj (bnot_t h4) (cj h5 True.intro))))))))))))))) (by kernel_rfl))
theorem e3(p:List ARat)(rV:ARange)(sho bri awa:Bool)(iso:List ARange)(iso1:Option Int)(iso2:Bool)(iso3:Option Int)(iso4:List ARange)(iso5:Int)(iso6:Bool)(iso7 num num1:Int){r:PV}(h1:Contract prg 10 [(polyPV p)] (vB sho))(h2:sho=true)(h3:Contract prg 11 [(polyPV [rV.lo,rV.hi])] (vB bri))(h4:bri=true)(h5:Contract prg 12 [] (vB awa))(h6:awa=true)(h7:Contract prg 32 [(polyPV p)] (.tup [(lpv ARange.cells iso),(errPV iso1)]))(h8:Contract prg 33 [(polyPV p),rV.pv] (.tup [(vB iso2),(errPV iso3)]))(h9:Contract prg 34 [(polyPV p)] (.tup [(lpv ARange.cells iso4),(vI iso5)]))(h10:Contract prg 35 [(polyPV p),rV.pv] (.tup [(vB iso6),(vI iso7)]))(h11:Contract prg 19 [(errPV iso1)] (vI num))(h12:num=iso5)(h13:iso.length=iso4.length)(h14:Contract prg 19 [(errPV iso3)] (vI num1))(h15:num1=iso7)(h16:iso2=iso6)(hL:Loop1 iso iso4 0 r):Contract prg 7 [(polyPV p),rV.pv] r :=
 Contract.ofL Tryz.func7 (by kernel_rfl) (L.go mixed tabOk (n:=135) (ns:=[1,1,1,1,1,1,3,1,1,1,1,1,1,1,1,1,1,1,1,1,1,1,1,1,1,1,1,1,1,1,1,1,1,1,1,1,1,1,1,1,1]) (tr:=[.reg [],.reg [.none,(.pv (vB sho)),.none,.none,.none,.none,.none,.none,(.slc 0 0 (([rV.lo,rV.hi]:List ARat).map ARat.cells)),(.pv (vB bri)),.none,(.dec false),.none,(.pv (vB awa)),.none,(.dec false)],.dec false,.reg [.none,(.pv (.tup [(lpv ARange.cells iso),(errPV iso1)]))],.reg [.none,.none,(.pv (.tup [(vB iso2),(errPV iso3)]))],.reg [.none,(.pv (.tup [(lpv ARange.cells iso4),(vI iso5)]))],.reg [.none,.none,(.pv (.tup [(vB iso6),(vI iso7)]))],.reg [.none,(.pv (vI num)),.none,.none,.none,.none,(iI (iso.length:Int)),.none,(iI (iso4.length:Int)),.none,(.dec false),.none,.none,(.pv (vI num1)),.none,.none,(.dec false),.none,.none,.none,.none,(.dec false)],.dec false,.reg [.none,(iI (iso.length:Int))],.keep [5,9,76,77],.drop [3]]) (cj h1 (cj (bnot_f h2) (cj (bnot_f h2) (cj (bnot_f h2) (cj (bnot_f h2) (cj (bnot_f h2) (cj (o_bs sz_ARat ([rV.lo,rV.hi]:List ARat)) (cj (bnot_f h2) (cj h3 (cj (bnot_f h2) (cj (bnot_f h2) (cj (bnot_f h4) (cj h5 (cj (bnot_f h4) (cj (bnot_f h4) (cj (bnot_f h6) (cj h7 (cj h8 (cj h9 (cj h10 (cj h11 (cj (dne_f h12) (cj (dne_f h12) (cj (o_len ARange.cells iso) (cj (dne_f h12) (cj (dne_f h12) (cj (o_len ARange.cells iso4) (cj (dne_f h12) (cj (dne_f h12) (cj (dneN_f h13) (cj (dneN_f h13) (cj h14 (cj (dneN_f h13) (cj (dneN_f h13) (cj (dneN_f h13) (cj (dne_f h15) (cj (dne_f h15) (cj (dne_f h15) (cj (dne_f h15) (cj (bnot_f (beq_t h16)) (cj (o_len ARange.cells iso) True.intro))))))))))))))))))))))))))))))))))))))))) (by kernel_rfl) hL)
theorem l10(iso iso4:List ARange)(t_77:Nat)(v v1:ARange)(sam:Bool){r:PV}(h1:t_77<iso.length)(h2:iso[t_77]? = some v)(h3:iso4[t_77]? = some v1)(h4:Contract prg 23 [v.pv,v1.pv] (vB sam))(h5:sam=true)(h6:(t_77+1)<9223372036854775808)(hL:Loop1 iso iso4 (t_77+1) r):Loop1 iso iso4 t_77 r :=
 L.go mixed tabOk (n:=183) (ns:=[1,3,3,1,1,1]) (tr:=[.auto,.reg [],.dec true,.reg [],dr 10 0 [.none,.none,(.row t_77 (ARange.cells v)),.none,.none,.none,(.row t_77 (ARange.cells v1)),.none,(.pv (vB sam))],.dec false,.reg [(iI (((t_77+1):Nat):Int))],.keep [5,9,76,77]]) (cj (dltN_t h1) (cj (o_at ARange.cells (Eq.refl (((t_77:Nat):Int):Int)) h2) (cj (o_at ARange.cells (Eq.refl (((t_77:Nat):Int):Int)) h3) (cj h4 (cj (bnot_f h5) (cj (bs_addN h6) True.intro)))))) (by kernel_rfl) hL
theorem l11(iso iso4:List ARange)(t_77:Nat)(h1:iso.length≤t_77):Loop1 iso iso4 t_77 (vB true) :=
 L.done mixed tabOk (n:=168) (ns:=[1]) (tr:=[.auto,.reg [],.dec false,.reg []]) (cj (dltN_f h1) True.intro) (by kernel_rfl)
end linkworklaw06_SturmIsolates
namespace linkworklaw06_short
@[reducible] noncomputable def fn:Func:=Tryz.f10
noncomputable def atK1:List Itm:=focus [0,2,0,0,2,1,2,0,0,2,0,0] [.code (bodyOf fn)]
def inv1(p:List ARat)(t_20:Nat):St:=⟨[(18,(.pv (polyPV p))),(19,(eI (p.length:Int))),(20,(eI (t_20:Int)))],[]⟩
@[reducible] noncomputable def Loop1(p:List ARat)(t_20:Nat)(r:PV):Prop:=L prg fn atK1 (inv1 p t_20) r
theorem e0(p:List ARat)(h1:7<p.length)(h2:p.length≤65):Contract prg 10 [(polyPV p)] (vB false) :=
 Contract.ofL Tryz.func10 (by kernel_rfl) (L.done mixed tabOk (n:=84) (ns:=[1,1,1,1,1,1,1,1,1,1]) (tr:=[.reg [],.reg [.none,(iI (p.length:Int)),.none,.none,.none,(iI (p.length:Int)),.none,(.dec true),.none,.skip,.skip,.skip,(.dec true)],.auto,.reg []]) (cj (o_len ARat.cells p) (cj (dltN_t h1) (cj (dltN_t h1) (cj (o_len ARat.cells p) (cj (dltN_t h1) (cj (dltN_t h1) (cj (dleN_t h2) (cj (dleN_t h2) (cj (dleN_t h2) (cj (dleN_t h2) True.intro)))))))))) (by kernel_rfl))
theorem e1(p:List ARat)(h1:7<p.length)(h2:65<p.length)(h3:100<p.length):Contract prg 10 [(polyPV p)] (vB false) :=
 Contract.ofL Tryz.func10 (by kernel_rfl) (L.done mixed tabOk (n:=84) (ns:=[1,1,1,1,1,1,1,1,1,1,1,1]) (tr:=[.reg [],.reg [.none,(iI (p.length:Int)),.none,.none,.none,(iI (p.length:Int)),.none,(.dec true),.none,.none,(iI (p.length:Int)),.none,(.dec false)],.dec true,.reg []]) (cj (o_len ARat.cells p) (cj (dltN_t h1) (cj (dltN_t h1) (cj (o_len ARat.cells p) (cj (dltN_t h1) (cj (dltN_t h1) (cj (dleN_f h2) (cj (dleN_f h2) (cj (o_len ARat.cells p) (cj (dleN_f h2) (cj (dleN_f h2) (cj (dltN_t h3) True.intro)))))))))))) (by kernel_rfl))
theorem e2(p:List ARat){r:PV}(h1:7<p.length)(h2:65<p.length)(h3:p.length≤100)(hL:Loop1 p 0 r):Contract prg 10 [(polyPV p)] r :=
 Contract.ofL Tryz.func10 (by kernel_rfl) (L.go mixed tabOk (n:=96) (ns:=[1,1,1,1,1,1,1,1,1,1,1,1,1]) (tr:=[.reg [],.reg [.none,(iI (p.length:Int)),.none,.none,.none,(iI (p.length:Int)),.none,(.dec true),.none,.none,(iI (p.length:Int)),.none,(.dec false)],.dec false,.reg [.none,(iI (p.length:Int))],.keep [18,19,20]]) (cj (o_len ARat.cells p) (cj (dltN_t h1) (cj (dltN_t h1) (cj (o_len ARat.cells p) (cj (dltN_t h1) (cj (dltN_t h1) (cj (dleN_f h2) (cj (dleN_f h2) (cj (o_len ARat.cells p) (cj (dleN_f h2) (cj (dleN_f h2) (cj (dltN_f h3) (cj (o_len ARat.cells p) True.intro))))))))))))) (by kernel_rfl) hL)
theorem e4(p:List ARat){r:PV}(h1:p.length≤7)(h2:p.length≤100)(hL:Loop1 p 0 r):Contract prg 10 [(polyPV p)] r :=
 Contract.ofL Tryz.func10 (by kernel_rfl) (L.go mixed tabOk (n:=96) (ns:=[1,1,1,1,1,1,1,1,1,1,1]) (tr:=[.reg [],.reg [.none,(iI (p.length:Int)),.none,.none,.skip,.skip,.skip,(.dec false),.none,.none,(iI (p.length:Int))],.dec false,.reg [.none,(iI (p.length:Int))],.keep [18,19,20]]) (cj (o_len ARat.cells p) (cj (dltN_f h1) (cj (dltN_f h1) (cj (dltN_f h1) (cj (dltN_f h1) (cj (Eq.refl false) (cj (Eq.refl false) (cj (o_len ARat.cells p) (cj (Eq.refl false) (cj (dltN_f h2) (cj (o_len ARat.cells p) True.intro))))))))))) (by kernel_rfl) hL)
theorem l10(p:List ARat)(t_20:Nat)(v:ARat)(low:Bool)(h1:t_20<p.length)(h2:p[t_20]? = some v)(h3:Contract prg 44 [v.pv,(vW (1000:UInt32)),(vW (1000:UInt32))] (vB low))(h4:low=false):Loop1 p t_20 (vB false) :=
 L.done mixed tabOk (n:=141) (ns:=[1,3,1,1]) (tr:=[.auto,.reg [],.dec true,.reg [(.row t_20 (ARat.cells v))],.reg [.none,(.pv (vB low))],.dec true,.reg []]) (cj (dltN_t h1) (cj (o_at ARat.cells (Eq.refl (((t_20:Nat):Int):Int)) h2) (cj h3 (cj (bnot_t h4) True.intro)))) (by kernel_rfl)
theorem l11(p:List ARat)(t_20:Nat)(v:ARat)(low:Bool){r:PV}(h1:t_20<p.length)(h2:p[t_20]? = some v)(h3:Contract prg 44 [v.pv,(vW (1000:UInt32)),(vW (1000:UInt32))] (vB low))(h4:low=true)(h5:(t_20+1)<9223372036854775808)(hL:Loop1 p (t_20+1) r):Loop1 p t_20 r :=
 L.go mixed tabOk (n:=144) (ns:=[1,3,1,1,1]) (tr:=[.auto,.reg [],.dec true,.reg [(.row t_20 (ARat.cells v))],.reg [.none,(.pv (vB low))],.dec false,.reg [(iI (((t_20+1):Nat):Int))],.keep [18,19,20],.drop [4]]) (cj (dltN_t h1) (cj (o_at ARat.cells (Eq.refl (((t_20:Nat):Int):Int)) h2) (cj h3 (cj (bnot_f h4) (cj (bs_addN h5) True.intro))))) (by kernel_rfl) hL
theorem l12(p:List ARat)(t_20:Nat)(h1:p.length≤t_20):Loop1 p t_20 (vB true) :=
 L.done mixed tabOk (n:=129) (ns:=[1]) (tr:=[.auto,.reg [],.dec false,.reg []]) (cj (dltN_f h1) True.intro) (by kernel_rfl)
end linkworklaw06_short
namespace linkworklaw06_brief
theorem e0(l:List ARat)(sho:Bool)(h1:Contract prg 10 [(polyPV l)] (vB sho)):Contract prg 11 [(polyPV l)] (vB sho) :=
 Contract.ofL Tryz.func11 (by kernel_rfl) (L.done mixed tabOk (n:=72) (ns:=[1]) (tr:=[.reg [],.reg [.none,(.pv (vB sho))]]) (cj h1 True.intro) (by kernel_rfl))
end linkworklaw06_brief
namespace linkworklaw06_awake
theorem e3(of:List ARat)(all:Int)(of1:List ARat)(iso:List ARange)(of2:List ARat)(all2:Int)(of3:List ARat)(v ref:ARange)(of4:List ARat)(iso2:List ARange)(v1:ARange)(tex tex1:ByteArray)(v2:ARange)(tex2:ByteArray)(h1:Contract prg 40 [(lpv intCell [(-2),0,1])] (polyPV of))(h2:Contract prg 14 [(polyPV of)] (.tup [(vI all),.nilI]))(h3:Contract prg 40 [(lpv intCell [(-2),0,1])] (polyPV of1))(h4:Contract prg 32 [(polyPV of1)] (.tup [(lpv ARange.cells iso),.nilI]))(h5:Contract prg 40 [(lpv intCell [1,0,1])] (polyPV of2))(h6:Contract prg 14 [(polyPV of2)] (.tup [(vI all2),.nilI]))(h7:all=2)(h8:all2=0)(h9:iso.length=2)(h10:Contract prg 40 [(lpv intCell [(-2),0,1])] (polyPV of3))(h11:iso[1]? = some v)(h12:Contract prg 21 [(polyPV of3),v.pv,(vI 1)] (.tup [ref.pv,.nilI]))(h13:Contract prg 40 [(lpv intCell [0,(-1),0,1])] (polyPV of4))(h14:Contract prg 32 [(polyPV of4)] (.tup [(lpv ARange.cells iso2),.nilI]))(h15:iso[0]? = some v1)(h16:Contract prg 45 [v1.pv] (.str tex))(h17:tex=(ByteArray.mk #[45,52,46,46,48]))(h18:Contract prg 45 [ref.pv] (.str tex1))(h19:tex1=(ByteArray.mk #[49,46,46,51,47,50]))(h20:iso2.length=3)(h21:iso2[0]? = some v2)(h22:Contract prg 45 [v2.pv] (.str tex2)):Contract prg 12 [] (vB (decide (tex2=(ByteArray.mk #[45,49,46,46,45,49])))) :=
 Contract.ofL Tryz.func12 (by kernel_rfl) (L.done mixed tabOk (n:=117) (ns:=[3,1,1,3,1,1,3,1,1,1,1,1,1,1,1,1,1,1,1,1,1,1,1,1,3,1,3,1,3,1,1,1,1,1,1,3,1,1,1,1,1,1,1,1,1,1,1,1,1,1,1,1,3,1,1,1,1,1]) (tr:=[.reg [],.reg [(.slc 0 0 (([(-2),0,1]:List Int).map intCell)),(.pv (polyPV of)),(.pv (.tup [(vI all),.nilI]))],.reg [(.slc 0 0 (([(-2),0,1]:List Int).map intCell)),(.pv (polyPV of1)),(.pv (.tup [(lpv ARange.cells iso),.nilI]))],.reg [(.slc 0 0 (([1,0,1]:List Int).map intCell)),(.pv (polyPV of2)),(.pv (.tup [(vI all2),.nilI]))],.reg [.none,.none,.none,.none,.none,.none,.none,.none,.none,.none,.none,.none,.none,.none,.none,.none,.none,(.dec false),.none,.none,(iI (iso.length:Int)),.none,(.dec false)],.dec false,dr 11 1 [(.slc 0 0 (([(-2),0,1]:List Int).map intCell)),(.pv (polyPV of3)),.none,(.row 1 (ARange.cells v)),.none,(.pv (.tup [ref.pv,.nilI]))],.reg [(.slc 0 0 (([0,(-1),0,1]:List Int).map intCell)),(.pv (polyPV of4)),(.pv (.tup [(lpv ARange.cells iso2),.nilI]))],.reg [.none,.none,.none,.none,.none,.none,.none,.none,(.row 0 (ARange.cells v1)),.none,(.pv (.str tex)),.none,.none,.none,.none,(.pv (.str tex1)),.none,(.dec true),.none,.none,(iI (iso2.length:Int)),.none,(.dec true),.none,.none,(.row 0 (ARange.cells v2)),.none,(.pv (.str tex2)),.none,(.dec true)]]) (cj (o_bs sz_int ([(-2),0,1]:List Int)) (cj h1 (cj h2 (cj (o_bs sz_int ([(-2),0,1]:List Int)) (cj h3 (cj h4 (cj (o_bs sz_int ([1,0,1]:List Int)) (cj h5 (cj h6 (cj (Eq.refl false) (cj (Eq.refl false) (cj (Eq.refl false) (cj (Eq.refl false) (cj (Eq.refl false) (cj (Eq.refl false) (cj (dne_f h7) (cj (dne_f h7) (cj (dne_f h7) (cj (dne_f h8) (cj (dne_f h8) (cj (o_len ARange.cells iso) (cj (dne_f h8) (cj (dne_f h8) (cj (dneN_f h9) (cj (o_bs sz_int ([(-2),0,1]:List Int)) (cj h10 (cj (o_at ARange.cells (Eq.refl (1:Int)) h11) (cj h12 (cj (o_bs sz_int ([0,(-1),0,1]:List Int)) (cj h13 (cj h14 (cj (Eq.refl true) (cj (Eq.refl true) (cj (Eq.refl true) (cj (Eq.refl true) (cj (o_at ARange.cells (Eq.refl (0:Int)) h15) (cj (Eq.refl true) (cj (Eq.refl true) (cj h16 (cj (Eq.refl true) (cj (dseq_t h17) (cj (dseq_t h17) (cj h18 (cj (dseq_t h17) (cj (dseq_t h17) (cj (dseq_t h19) (cj (dseq_t h19) (cj (o_len ARange.cells iso2) (cj (dseq_t h19) (cj (dseq_t h19) (cj (deqN_t h20) (cj (deqN_t h20) (cj (o_at ARange.cells (Eq.refl (0:Int)) h21) (cj (deqN_t h20) (cj (deqN_t h20) (cj h22 (cj (deqN_t h20) (cj (deqN_t h20) True.intro)))))))))))))))))))))))))))))))))))))))))))))))))))))))))) (by kernel_rfl))
end linkworklaw06_awake
namespace linkworklaw06_of
@[reducible] noncomputable def fn:Func:=Tryz.f40
noncomputable def atK1:List Itm:=focus [0,2,0,2,0,0,2,0,0] [.code (bodyOf fn)]
def inv1(site_16:List ARat)(l:List Int)(t_8:Nat):St:=⟨[(3,(.row 16 0 site_16.length 3)),(6,(.pv (lpv intCell l))),(7,(eI (l.length:Int))),(8,(eI (t_8:Int)))],[(16,(.pure ((site_16:List ARat).map ARat.cells).flatten))]⟩
@[reducible] noncomputable def Loop1(site_16:List ARat)(l:List Int)(t_8:Nat)(r:PV):Prop:=L prg fn atK1 (inv1 site_16 l t_8) r
theorem e0 (l : List Int) {r : PV}  (hL : Loop1 [] l 0 r) : Contract prg 40 [(lpv intCell l)] r :=
 Contract.ofL Tryz.func40 (by kernel_rfl) (L.go mixed tabOk (n:=87) (ns:=[1]) (tr:=[.reg [],.reg [.nil],.adopt 3 16 3,.reg [.none,(iI (l.length:Int))],.keep [3,6,7,8]]) (cj (o_len intCell l) True.intro) (by kernel_rfl) hL)
theorem l10(site_16:List ARat)(l:List Int)(t_8:Nat)(v:Int)(of:ARat){r:PV}(h1:t_8<l.length)(h2:l[t_8]? = some v)(h3:Contract prg 56 [(vI v)] of.pv)(h4:((site_16++[of]):List ARat).length*56≤140737488355328)(h5:(t_8+1)<9223372036854775808)(hL:Loop1 (site_16++[of]) l (t_8+1) r):Loop1 site_16 l t_8 r :=
 L.go mixed tabOk (n:=126) (ns:=[1,3,1,6,1]) (tr:=[.auto,.reg [],.dec true,.reg [(.row t_8 (intCell v))],.reg [.none,.none,(.pv of.pv),.none,(.app ((site_16++[of]):List ARat).length (((site_16++[of]):List ARat).map ARat.cells).flatten)],.reg [(iI (((t_8+1):Nat):Int))],.keep [3,6,7,8],.drop [15]]) (cj (dltN_t h1) (cj (o_at intCell (Eq.refl (((t_8:Nat):Int):Int)) h2) (cj h3 (cj (o_appR sz_ARat (site_16:List ARat) ([of]:List ARat) 56 (Eq.refl (site_16:List ARat).length) (Eq.refl ([of]:List ARat).length) h4 rfl) (cj (bs_addN h5) True.intro))))) (by kernel_rfl) hL
theorem l11(site_16:List ARat)(l:List Int)(t_8:Nat)(h1:l.length≤t_8):Loop1 site_16 l t_8 (polyPV site_16) :=
 L.done mixed tabOk (n:=120) (ns:=[1,3]) (tr:=[.auto,.reg [],.dec false,.reg [],.frzT 2 ((site_16:List ARat).map ARat.cells)]) (cj (dltN_f h1) (cj (o_frz sz_ARat (site_16:List ARat) (Eq.refl (site_16:List ARat).length)) True.intro)) (by kernel_rfl)
end linkworklaw06_of
namespace linkworklaw06_low
theorem e0(x:ARat)(num den:UInt32)(h1:x.num.length<2)(h2:x.den.length<2)(h3:x.num.length=0)(h4:x.den.length=0):Contract prg 44 [x.pv,(vW num),(vW den)] (vB true) :=
 Contract.ofL Tryz.func44 (by kernel_rfl) (L.done mixed tabOk (n:=72) (ns:=[1,1,1,1,1,1,1,1,1,1,1,1,1,1,1,1,1,1,1,1,1,1,1,1,1,1,1,1,1,1,1,1,1,1,1,1]) (tr:=[.reg [],.reg [.none,.none,(iI (x.num.length:Int)),.none,.none,.none,.none,(iI (x.den.length:Int)),.none,(.dec true),.none,.none,.none,(iI (x.num.length:Int)),.none,.none,.skip,.skip,.skip,.skip,.skip,.skip,(.dec true),(.dec true),.none,.none,.none,(iI (x.den.length:Int)),.none,.none,.skip,.skip,.skip,.skip,.skip,.skip,(.dec true)]]) (cj (o_len wordPV x.num) (cj (dltN_t h1) (cj (dltN_t h1) (cj (dltN_t h1) (cj (o_len wordPV x.den) (cj (dltN_t h1) (cj (dltN_t h1) (cj (dltN_t h2) (cj (dltN_t h2) (cj (dltN_t h2) (cj (o_len wordPV x.num) (cj (dltN_t h2) (cj (dltN_t h2) (cj (deqN_t h3) (cj (deqN_t h3) (cj (deqN_t h3) (cj (deqN_t h3) (cj (deqN_t h3) (cj (deqN_t h3) (cj (dltN_t h2) (cj (deqN_t h3) (cj (dltN_t h2) (cj (Eq.refl true) (cj (Eq.refl true) (cj (Eq.refl true) (cj (o_len wordPV x.den) (cj (Eq.refl true) (cj (Eq.refl true) (cj (deqN_t h4) (cj (deqN_t h4) (cj (deqN_t h4) (cj (deqN_t h4) (cj (deqN_t h4) (cj (deqN_t h4) (cj (Eq.refl true) (cj (deqN_t h4) True.intro)))))))))))))))))))))))))))))))))))) (by kernel_rfl))
theorem e1(x:ARat)(num den v:UInt32)(h1:x.num.length<2)(h2:x.den.length<2)(h3:x.num.length=0)(h4:x.den.length≠0)(h5:x.den[0]? = some v):Contract prg 44 [x.pv,(vW num),(vW den)] (vB (decide ((v.toNat:Int)≤(den.toNat:Int)))) :=
 Contract.ofL Tryz.func44 (by kernel_rfl) (L.done mixed tabOk (n:=72) (ns:=[1,1,1,1,1,1,1,1,1,1,1,1,1,1,1,1,1,1,1,1,1,1,1,1,1,1,1,1,1,1,1,3,1,1,1,1,1]) (tr:=[.reg [],.reg [.none,.none,(iI (x.num.length:Int)),.none,.none,.none,.none,(iI (x.den.length:Int)),.none,(.dec true),.none,.none,.none,(iI (x.num.length:Int)),.none,.none,.skip,.skip,.skip,.skip,.skip,.skip,(.dec true),(.dec true),.none,.none,.none,(iI (x.den.length:Int)),.none,.none,.none,.none,(.row 0 (wordPV v)),.none,.none,.none,(.dec false)]]) (cj (o_len wordPV x.num) (cj (dltN_t h1) (cj (dltN_t h1) (cj (dltN_t h1) (cj (o_len wordPV x.den) (cj (dltN_t h1) (cj (dltN_t h1) (cj (dltN_t h2) (cj (dltN_t h2) (cj (dltN_t h2) (cj (o_len wordPV x.num) (cj (dltN_t h2) (cj (dltN_t h2) (cj (deqN_t h3) (cj (deqN_t h3) (cj (deqN_t h3) (cj (deqN_t h3) (cj (deqN_t h3) (cj (deqN_t h3) (cj (dltN_t h2) (cj (deqN_t h3) (cj (dltN_t h2) (cj (Eq.refl true) (cj (Eq.refl true) (cj (Eq.refl true) (cj (o_len wordPV x.den) (cj (Eq.refl true) (cj (Eq.refl true) (cj (deqN_f h4) (cj (deqN_f h4) (cj (deqN_f h4) (cj (o_at wordPV (Eq.refl (0:Int)) h5) (cj (deqN_f h4) (cj (deqN_f h4) (cj (deqN_f h4) (cj (Eq.refl true) (cj (deqN_f h4) True.intro))))))))))))))))))))))))))))))))))))) (by kernel_rfl))
theorem e2(x:ARat)(num den v:UInt32)(h1:x.num.length<2)(h2:x.den.length<2)(h3:x.num.length≠0)(h4:x.num[0]? = some v)(h5:v.toNat≤num.toNat)(h6:x.den.length=0):Contract prg 44 [x.pv,(vW num),(vW den)] (vB true) :=
 Contract.ofL Tryz.func44 (by kernel_rfl) (L.done mixed tabOk (n:=72) (ns:=[1,1,1,1,1,1,1,1,1,1,1,1,1,1,1,1,3,1,1,1,1,1,1,1,1,1,1,1,1,1,1,1,1,1,1,1,1,1]) (tr:=[.reg [],.reg [.none,.none,(iI (x.num.length:Int)),.none,.none,.none,.none,(iI (x.den.length:Int)),.none,(.dec true),.none,.none,.none,(iI (x.num.length:Int)),.none,.none,.none,.none,(.row 0 (wordPV v)),.none,.none,.none,(.dec false),(.dec true),.none,.none,.none,(iI (x.den.length:Int)),.none,.none,.skip,.skip,.skip,.skip,.skip,.skip,(.dec true),(.dec true)]]) (cj (o_len wordPV x.num) (cj (dltN_t h1) (cj (dltN_t h1) (cj (dltN_t h1) (cj (o_len wordPV x.den) (cj (dltN_t h1) (cj (dltN_t h1) (cj (dltN_t h2) (cj (dltN_t h2) (cj (dltN_t h2) (cj (o_len wordPV x.num) (cj (dltN_t h2) (cj (dltN_t h2) (cj (deqN_f h3) (cj (deqN_f h3) (cj (deqN_f h3) (cj (o_at wordPV (Eq.refl (0:Int)) h4) (cj (deqN_f h3) (cj (deqN_f h3) (cj (deqN_f h3) (cj (dltN_t h2) (cj (deqN_f h3) (cj (dltN_t h2) (cj (dleN_t h5) (cj (dleN_t h5) (cj (dleN_t h5) (cj (o_len wordPV x.den) (cj (dleN_t h5) (cj (dleN_t h5) (cj (deqN_t h6) (cj (deqN_t h6) (cj (deqN_t h6) (cj (deqN_t h6) (cj (deqN_t h6) (cj (deqN_t h6) (cj (dleN_t h5) (cj (deqN_t h6) (cj (dleN_t h5) True.intro)))))))))))))))))))))))))))))))))))))) (by kernel_rfl))
theorem e3(x:ARat)(num den v v1:UInt32)(h1:x.num.length<2)(h2:x.den.length<2)(h3:x.num.length≠0)(h4:x.num[0]? = some v)(h5:v.toNat≤num.toNat)(h6:x.den.length≠0)(h7:x.den[0]? = some v1):Contract prg 44 [x.pv,(vW num),(vW den)] (vB (decide ((v1.toNat:Int)≤(den.toNat:Int)))) :=
 Contract.ofL Tryz.func44 (by kernel_rfl) (L.done mixed tabOk (n:=72) (ns:=[1,1,1,1,1,1,1,1,1,1,1,1,1,1,1,1,3,1,1,1,1,1,1,1,1,1,1,1,1,1,1,1,3,1,1,1,1,1,1]) (tr:=[.reg [],.reg [.none,.none,(iI (x.num.length:Int)),.none,.none,.none,.none,(iI (x.den.length:Int)),.none,(.dec true),.none,.none,.none,(iI (x.num.length:Int)),.none,.none,.none,.none,(.row 0 (wordPV v)),.none,.none,.none,(.dec false),(.dec true),.none,.none,.none,(iI (x.den.length:Int)),.none,.none,.none,.none,(.row 0 (wordPV v1)),.none,.none,.none,(.dec false),(.dec true)]]) (cj (o_len wordPV x.num) (cj (dltN_t h1) (cj (dltN_t h1) (cj (dltN_t h1) (cj (o_len wordPV x.den) (cj (dltN_t h1) (cj (dltN_t h1) (cj (dltN_t h2) (cj (dltN_t h2) (cj (dltN_t h2) (cj (o_len wordPV x.num) (cj (dltN_t h2) (cj (dltN_t h2) (cj (deqN_f h3) (cj (deqN_f h3) (cj (deqN_f h3) (cj (o_at wordPV (Eq.refl (0:Int)) h4) (cj (deqN_f h3) (cj (deqN_f h3) (cj (deqN_f h3) (cj (dltN_t h2) (cj (deqN_f h3) (cj (dltN_t h2) (cj (dleN_t h5) (cj (dleN_t h5) (cj (dleN_t h5) (cj (o_len wordPV x.den) (cj (dleN_t h5) (cj (dleN_t h5) (cj (deqN_f h6) (cj (deqN_f h6) (cj (deqN_f h6) (cj (o_at wordPV (Eq.refl (0:Int)) h7) (cj (deqN_f h6) (cj (deqN_f h6) (cj (deqN_f h6) (cj (dleN_t h5) (cj (deqN_f h6) (cj (dleN_t h5) True.intro))))))))))))))))))))))))))))))))))))))) (by kernel_rfl))
theorem e4(x:ARat)(num den v:UInt32)(h1:x.num.length<2)(h2:x.den.length<2)(h3:x.num.length≠0)(h4:x.num[0]? = some v)(h5:num.toNat<v.toNat):Contract prg 44 [x.pv,(vW num),(vW den)] (vB false) :=
 Contract.ofL Tryz.func44 (by kernel_rfl) (L.done mixed tabOk (n:=72) (ns:=[1,1,1,1,1,1,1,1,1,1,1,1,1,1,1,1,3,1,1,1,1,1,1,1,1,1,1,1,1,1]) (tr:=[.reg [],.reg [.none,.none,(iI (x.num.length:Int)),.none,.none,.none,.none,(iI (x.den.length:Int)),.none,(.dec true),.none,.none,.none,(iI (x.num.length:Int)),.none,.none,.none,.none,(.row 0 (wordPV v)),.none,.none,.none,(.dec false),(.dec true),.none,.skip,.skip,.skip,.skip,.skip,.skip,.skip,.skip,.skip,.skip,.skip,.skip,(.dec false)]]) (cj (o_len wordPV x.num) (cj (dltN_t h1) (cj (dltN_t h1) (cj (dltN_t h1) (cj (o_len wordPV x.den) (cj (dltN_t h1) (cj (dltN_t h1) (cj (dltN_t h2) (cj (dltN_t h2) (cj (dltN_t h2) (cj (o_len wordPV x.num) (cj (dltN_t h2) (cj (dltN_t h2) (cj (deqN_f h3) (cj (deqN_f h3) (cj (deqN_f h3) (cj (o_at wordPV (Eq.refl (0:Int)) h4) (cj (deqN_f h3) (cj (deqN_f h3) (cj (deqN_f h3) (cj (dltN_t h2) (cj (deqN_f h3) (cj (dltN_t h2) (cj (dleN_f h5) (cj (dleN_f h5) (cj (dleN_f h5) (cj (dleN_f h5) (cj (dleN_f h5) (cj (dleN_f h5) (cj (dleN_f h5) True.intro)))))))))))))))))))))))))))))) (by kernel_rfl))
theorem e5(x:ARat)(num den:UInt32)(h1:x.num.length<2)(h2:2≤x.den.length):Contract prg 44 [x.pv,(vW num),(vW den)] (vB false) :=
 Contract.ofL Tryz.func44 (by kernel_rfl) (L.done mixed tabOk (n:=72) (ns:=[1,1,1,1,1,1,1,1,1,1,1,1,1,1,1,1,1,1,1,1]) (tr:=[.reg [],.reg [.none,.none,(iI (x.num.length:Int)),.none,.none,.none,.none,(iI (x.den.length:Int)),.none,(.dec true),.none,.skip,.skip,.skip,.skip,.skip,.skip,.skip,.skip,.skip,.skip,.skip,.skip,(.dec false),.none,.skip,.skip,.skip,.skip,.skip,.skip,.skip,.skip,.skip,.skip,.skip,.skip]]) (cj (o_len wordPV x.num) (cj (dltN_t h1) (cj (dltN_t h1) (cj (dltN_t h1) (cj (o_len wordPV x.den) (cj (dltN_t h1) (cj (dltN_t h1) (cj (dltN_f h2) (cj (dltN_f h2) (cj (dltN_f h2) (cj (dltN_f h2) (cj (dltN_f h2) (cj (dltN_f h2) (cj (dltN_f h2) (cj (Eq.refl false) (cj (Eq.refl false) (cj (Eq.refl false) (cj (Eq.refl false) (cj (Eq.refl false) (cj (Eq.refl false) True.intro)))))))))))))))))))) (by kernel_rfl))
theorem e6(x:ARat)(num den:UInt32)(h1:2≤x.num.length):Contract prg 44 [x.pv,(vW num),(vW den)] (vB false) :=
 Contract.ofL Tryz.func44 (by kernel_rfl) (L.done mixed tabOk (n:=72) (ns:=[1,1,1,1,1,1,1,1,1,1,1,1,1,1,1,1,1,1]) (tr:=[.reg [],.reg [.none,.none,(iI (x.num.length:Int)),.none,.none,.skip,.skip,.skip,.skip,(.dec false),.none,.skip,.skip,.skip,.skip,.skip,.skip,.skip,.skip,.skip,.skip,.skip,.skip,.none,.none,.skip,.skip,.skip,.skip,.skip,.skip,.skip,.skip,.skip,.skip,.skip,.skip]]) (cj (o_len wordPV x.num) (cj (dltN_f h1) (cj (dltN_f h1) (cj (dltN_f h1) (cj (dltN_f h1) (cj (dltN_f h1) (cj (Eq.refl false) (cj (Eq.refl false) (cj (Eq.refl false) (cj (Eq.refl false) (cj (Eq.refl false) (cj (Eq.refl false) (cj (Eq.refl false) (cj (Eq.refl false) (cj (Eq.refl false) (cj (Eq.refl false) (cj (Eq.refl false) (cj (Eq.refl false) True.intro)))))))))))))))))) (by kernel_rfl))
end linkworklaw06_low
end Go.Proofs.YtjadajceekjeoaaGreatDoor.Sym.Path
namespace Go.Proofs.YtjadajceekjeoaaGreatDoor.Sym
open Go Path CInt
set_option linter.unusedVariables false
namespace C06
theorem of(l:List Int)(h:∀n∈l,InI64 n)(hl:l.length≤1000):Contract prg 40 [lpv intCell l] (pq (l.map (fun n=>((n:Int):Rat)))):=by
 have loop:∀d t:Nat,l.length-t=d→t≤l.length→linkworklaw06_of.Loop1 (((l.take t).map (fun n=>((n:Int):Rat))).map mkR) l t (pq (l.map (fun n=>((n:Int):Rat)))):=by
  intro d
  induction d with
  |zero =>
   intro t hd ht
   have:t=l.length:=by omega
   subst this
   rw[List.take_length]
   exact linkworklaw06_of.l11 _ _ _ (Nat.le_refl _)
  |succ d ih =>
   intro t hd ht
   obtain⟨v,hv⟩:∃v,l[t]? = some v:=⟨_,List.getElem?_eq_getElem (by omega)⟩
   have:=ih (t+1) (by omega) (by omega)
   rw[List.take_add_one,hv] at this
   refine linkworklaw06_of.l10 _ l t v (mkR ((v:Int):Rat)) (by omega) hv (CRb.Of v (h v (List.mem_of_getElem? hv))) ?_ (by omega) ?_
   ·rw[List.length_append,List.length_map,List.length_map,List.length_take,List.length_singleton];omega
   ·simpa using this
 exact linkworklaw06_of.e0 l (loop _ 0 rfl (by omega))
def Lo(a:ARat):Prop:=a.num.length≤1∧a.den.length≤1∧nat a.num≤1000∧nat a.den≤1000
theorem nat_one{l:Words}{v:UInt32}(hl:l.length<2)(h:l[0]? = some v):nat l=v.toNat:=by
 match l,hl,h with
 |[w],_,h=>simp at h;subst h;simp[nat]
theorem nat_none{l:Words}(h:l.length=0):nat l=0:=by rw[List.eq_nil_of_length_eq_zero h];rfl
theorem low(x:ARat):∃b,Contract prg 44 [x.pv,vW 1000,vW 1000] (vB b)∧(b=true→Lo x):=by
 have e:(1000:UInt32).toNat=1000:=rfl
 by_cases h1:x.num.length<2
 ·by_cases h2:x.den.length<2
  ·have den:nat x.num≤1000→∀v u:UInt32,x.den[0]? = some u→decide (u.toNat≤(1000:UInt32).toNat)=true→Lo x:=fun h v u hu hd=>⟨by omega,by omega,h,by rw[nat_one h2 hu];have:=of_decide_eq_true hd;omega⟩
   by_cases h3:x.num.length=0
   ·have hn:nat x.num≤1000:=by rw[nat_none h3];omega
    by_cases h4:x.den.length=0
    ·exact⟨_,linkworklaw06_low.e0 x _ _ h1 h2 h3 h4,fun _=>⟨by omega,by omega,hn,by rw[nat_none h4];omega⟩⟩
    ·obtain⟨v,hv⟩:∃v,x.den[0]? = some v:=⟨_,List.getElem?_eq_getElem (by omega)⟩
     exact⟨_,linkworklaw06_low.e1 x _ _ v h1 h2 h3 h4 hv,fun h=>den hn v v hv (by have h':=of_decide_eq_true h;exact decide_eq_true (by omega))⟩
   ·obtain⟨v,hv⟩:∃v,x.num[0]? = some v:=⟨_,List.getElem?_eq_getElem (by omega)⟩
    by_cases h5:v.toNat≤(1000:UInt32).toNat
    ·have hn:nat x.num≤1000:=by rw[nat_one h1 hv];omega
     by_cases h4:x.den.length=0
     ·exact⟨_,linkworklaw06_low.e2 x _ _ v h1 h2 h3 hv h5 h4,fun _=>⟨by omega,by omega,hn,by rw[nat_none h4];omega⟩⟩
     ·obtain⟨u,hu⟩:∃v,x.den[0]? = some v:=⟨_,List.getElem?_eq_getElem (by omega)⟩
      exact⟨_,linkworklaw06_low.e3 x _ _ v u h1 h2 h3 hv h5 h4 hu,fun h=>den hn v u hu (by have h':=of_decide_eq_true h;exact decide_eq_true (by omega))⟩
    ·exact⟨_,linkworklaw06_low.e4 x _ _ v h1 h2 h3 hv (by omega),fun h=>by cases h⟩
  ·exact⟨_,linkworklaw06_low.e5 x _ _ h1 (by omega),fun h=>by cases h⟩
 ·exact⟨_,linkworklaw06_low.e6 x _ _ (by omega),fun h=>by cases h⟩
def ShP(p:List ARat):Prop:=(p.length≤7∨65<p.length∧p.length≤100)∧∀a∈p,Lo a
theorem short(p:List ARat):∃b,Contract prg 10 [polyPV p] (vB b)∧(b=true→ShP p):=by
 have loop:p.length≤100→∀d t:Nat,p.length-t=d→∃b,linkworklaw06_short.Loop1 p t (vB b)∧(b=true→∀a∈p.drop t,Lo a):=by
  intro hl d
  induction d with
  |zero =>
   intro t hd
   exact⟨true,linkworklaw06_short.l12 p t (by omega),fun _=>by rw[List.drop_of_length_le (by omega)];intro a ha;cases ha⟩
  |succ d ih =>
   intro t hd
   obtain⟨v,hv⟩:∃v,p[t]? = some v:=⟨_,List.getElem?_eq_getElem (by omega)⟩
   obtain⟨b1,h1,h2⟩:=low v
   cases b1 with
   |false=>exact⟨false,linkworklaw06_short.l10 p t v _ (by omega) hv h1 rfl,fun h=>by cases h⟩
   |true =>
    obtain⟨b,g1,g2⟩:=ih (t+1) (by omega)
    refine⟨b,linkworklaw06_short.l11 p t v _ (by omega) hv h1 rfl (by omega) g1,fun h a ha => ?_⟩
    rw[drop_cons hv] at ha
    rcases List.mem_cons.1 ha with rfl|ha
    ·exact h2 rfl
    ·exact g2 h a ha
 by_cases h6:p.length≤7
 ·obtain⟨b,h1,h2⟩:=loop (by omega) _ 0 rfl
  rw[List.drop_zero] at h2
  exact⟨b,linkworklaw06_short.e4 p h6 (by omega) h1,fun h=>⟨Or.inl h6,h2 h⟩⟩
 ·by_cases h7:p.length≤65
  ·exact⟨false,linkworklaw06_short.e0 p (by omega) h7,fun h=>by cases h⟩
  ·by_cases h8:p.length≤100
   ·obtain⟨b,h1,h2⟩:=loop (by omega) _ 0 rfl
    rw[List.drop_zero] at h2
    exact⟨b,linkworklaw06_short.e2 p (by omega) (by omega) h8 h1,fun h=>⟨Or.inr ⟨by omega,h8⟩,h2 h⟩⟩
   ·exact⟨false,linkworklaw06_short.e1 p (by omega) (by omega) (by omega),fun h=>by cases h⟩
theorem brief(p:List ARat):∃b,Contract prg 11 [polyPV p] (vB b)∧(b=true→∀a∈p,Lo a):=by
 obtain⟨b,h1,h2⟩:=short p
 exact⟨b,linkworklaw06_brief.e0 p b h1,fun h=>(h2 h).2⟩
theorem ShP.fit{p:List ARat}(h:ShP p){k:Nat}(hk:1≤k):FitP k p:=fun a ha=>⟨Nat.le_trans (h.2 a ha).1 hk,Nat.le_trans (h.2 a ha).2.1 hk⟩
theorem fineF{q:List Rat}(z:lastZ q=false)(h0:q≠[])(hl:q.length≤7)(hf:Fl 1 q):Fine 13 7 q:=⟨z,h0,hl,(Ch.of_fl hf).mono (by omega),by omega,by omega,by decide +kernel⟩
theorem okF:IsoOK 13 7:=by decide +kernel
structure S6 (p:List ARat):Prop where
 pv:pq (vals p)=polyPV p
 fine:Fine 13 7 (vals p)
 fl:Fl 1 (vals p)
theorem ShP.s6{p:List ARat}(h:ShP p)(hc:errC p=0):S6 p:=by
 unfold errC at hc
 by_cases h0:chk p=0
 ·rw[if_pos h0] at hc
  have hn:p.length≠0:=fun e=>by rw[if_pos e] at hc;exact absurd hc (by decide)
  have hl:=chk_len h0
  have pl:(vals p).length=p.length:=by unfold vals;rw[List.length_map]
  have ep:=vals_of (chk_valid h0)
  have hf:Fl 1 (vals p):=fl_vals (h.fit (by omega)) (by omega)
  refine⟨by unfold pq;rw[ep],fineF (chk_last h0) (fun e=>hn (by rw[←pl,e];rfl)) ?_ hf,hf⟩
  rcases h.1 with h1|h1<;>omega
 ·rw[if_neg h0] at hc;exact absurd hc h0
theorem sameR(q:Rat)(h:ht q≤68719476736):Contract prg 20 [(mkR q).pv,(mkR q).pv] (vB true):=by
 have f:=fit_mkRk h
 have:=CBa.Rat (mkR q) (mkR q) (by omega) (by omega)
 rw[eqR_self] at this
 exact linkworkref02_Same.e0 _ _ _ this
theorem sameG(a b:Rat)(h1:ht a≤68719476736)(h2:ht b≤68719476736):Contract prg 23 [(mkG a b).pv,(mkG a b).pv] (vB true) :=
 linkworkref03_Same.e0 (mkG a b) (mkG a b) _ _ (sameR a h1) rfl (sameR b h2)
abbrev exA:List Rat:=[((-2:Int):Rat),((0:Int):Rat),((1:Int):Rat)]
abbrev exB:List Rat:=[((1:Int):Rat),((0:Int):Rat),((1:Int):Rat)]
abbrev exC:List Rat:=[((0:Int):Rat),((-1:Int):Rat),((0:Int):Rat),((1:Int):Rat)]
theorem text(a b:Rat)(hab:a≤b)(ha:a.num.natAbs<100)(hb:b.num.natAbs<100)(ha2:a.den<100)(hb2:b.den<100)(s1:(ratT a).size<1000)(s2:(ratT b).size<1000):Contract prg 45 [(mkG a b).pv] (.str (ratT a++ByteArray.mk #[46,46]++ratT b)):=by
 have h1:ht a≤1:=Nat.max_le.2 ⟨len_of_lt (by omega),len_of_lt (by rw[Int.natAbs_natCast];omega)⟩
 have h2:ht b≤1:=Nat.max_le.2 ⟨len_of_lt (by omega),len_of_lt (by rw[Int.natAbs_natCast];omega)⟩
 have hc:=CIv.clean (mkG a b) (fit_mkG (Nat.le_trans h1 (by omega)) (Nat.le_trans h2 (by omega)))
 rw[loG_mk hab,hiG_mk hab] at hc
 have e2:(ByteArray.mk #[46,46]).size=2:=rfl
 exact interval_Text.e0 _ (mkG a b) _ _ hc (CTx.fText_small a ha ha2) (by omega) (CTx.fText_small b hb hb2) (by rw[ByteArray.size_append];omega)
theorem awake:Contract prg 12 [] (vB true):=by
 have a1:=of [-2,0,1] (by unfold InI64;decide) (by decide)
 have a2:=of [1,0,1] (by unfold InI64;decide) (by decide)
 have a3:=of [0, -1,0,1] (by unfold InI64;decide) (by decide)
 have fA:Fl 1 exA:=by decide +kernel
 have fB:Fl 1 exB:=by decide +kernel
 have fC:Fl 1 exC:=by decide +kernel
 have FA:Fine 13 7 exA:=fineF (by decide +kernel) (by simp) (by decide) fA
 have FB:Fine 13 7 exB:=fineF (by decide +kernel) (by simp) (by decide) fB
 have FC:Fine 13 7 exC:=fineF (by decide +kernel) (by simp) (by decide) fC
 have b1:=CSt.All FA fA
 have e1:chg (chainL exA) (-bndP exA)-chg (chainL exA) (bndP exA)=2:=by decide +kernel
 rw[e1] at b1
 have b2:=CSt.All FB fB
 have e2:chg (chainL exB) (-bndP exB)-chg (chainL exB) (bndP exB)=0:=by decide +kernel
 rw[e2] at b2
 have i1:=CSt.Isolate FA fA okF
 have e3:isoL 13 7 exA=[(-4,0),(0,4)]:=by decide +kernel
 rw[e3] at i1
 have i2:=CSt.Isolate FC fC okF
 have e4:isoL 13 7 exC=[(-1, -1),(0,0),(1,1)]:=by decide +kernel
 rw[e4] at i2
 have r1:=CSt.Refine FA (lo:=0) (hi:=4) (bits:=1) (e:=2) ⟨by decide +kernel,by decide +kernel,by decide +kernel,by decide +kernel,by decide +kernel,by decide⟩ (by decide +kernel)
 have e5:refR exA 0 4 1 2=(1,Rat.divInt 3 2):=by decide +kernel
 rw[e5] at r1
 have n0:numT 0=ByteArray.mk #[48]:=by unfold numT;rw[if_neg (by decide),show(0:Int).natAbs=0 from rfl,dig_small (by omega)];rfl
 have n1:numT 1=ByteArray.mk #[49]:=by unfold numT;rw[if_neg (by decide),show(1:Int).natAbs=1 from rfl,dig_small (by omega)];rfl
 have n2:numT 2=ByteArray.mk #[50]:=by unfold numT;rw[if_neg (by decide),show(2:Int).natAbs=2 from rfl,dig_small (by omega)];rfl
 have n3:numT 3=ByteArray.mk #[51]:=by unfold numT;rw[if_neg (by decide),show(3:Int).natAbs=3 from rfl,dig_small (by omega)];rfl
 have m1:numT (-1)=ByteArray.mk #[45,49]:=by unfold numT;rw[if_pos (by decide),show(-1:Int).natAbs=1 from rfl,dig_small (by omega)];decide +kernel
 have m4:numT (-4)=ByteArray.mk #[45,52]:=by unfold numT;rw[if_pos (by decide),show(-4:Int).natAbs=4 from rfl,dig_small (by omega)];decide +kernel
 have t0:ratT 0=ByteArray.mk #[48]:=by unfold ratT;rw[if_pos (by decide),show(0:Rat).num=0 from rfl,n0]
 have t1:ratT 1=ByteArray.mk #[49]:=by unfold ratT;rw[if_pos (by decide),show(1:Rat).num=1 from rfl,n1]
 have tm1:ratT (-1)=ByteArray.mk #[45,49]:=by unfold ratT;rw[if_pos (by decide),show(-1:Rat).num = -1 from rfl,m1]
 have tm4:ratT (-4)=ByteArray.mk #[45,52]:=by unfold ratT;rw[if_pos (by decide),show(-4:Rat).num = -4 from rfl,m4]
 have t32:ratT (Rat.divInt 3 2)=ByteArray.mk #[51,47,50]:=by
  have en:(Rat.divInt 3 2).num=3:=by decide +kernel
  have ed:((Rat.divInt 3 2).den:Int)=2:=by decide +kernel
  unfold ratT
  rw[if_neg (by rw[ed];decide),en,ed,n3,n2]
  decide +kernel
 have x1:=text (-4) 0 (by decide +kernel) (by decide +kernel) (by decide +kernel) (by decide +kernel) (by decide +kernel) (by rw[tm4];decide) (by rw[t0];decide)
 have x2:=text 1 (Rat.divInt 3 2) (by decide +kernel) (by decide +kernel) (by decide +kernel) (by decide +kernel) (by decide +kernel) (by rw[t1];decide) (by rw[t32];decide)
 have x3:=text (-1) (-1) (by decide +kernel) (by decide +kernel) (by decide +kernel) (by decide +kernel) (by decide +kernel) (by rw[tm1];decide) (by rw[tm1];decide)
 rw[tm4,t0] at x1
 rw[t1,t32] at x2
 rw[tm1] at x3
 exact linkworklaw06_awake.e3 _ _ _ _ _ _ _ (mkG 0 4) (mkG 1 (Rat.divInt 3 2)) _ _ (mkG (-4) 0) _ _ (mkG (-1) (-1)) _ a1 b1 a1 i1 a2 b2 rfl rfl rfl a1 rfl r1 a3 i2 rfl x1 (by decide +kernel) x2 (by decide +kernel) rfl rfl x3
end C06
end Go.Proofs.YtjadajceekjeoaaGreatDoor.Sym
namespace Go.Proofs.YtjadajceekjeoaaGreatDoor.Sym
open Go Path CInt
set_option linter.unusedVariables false
namespace C06
theorem SturmIsolates(p:List ARat)(r:ARange){A B:Prop}(_:A)(_:B):Contract prg 7 [polyPV p,r.pv] (vB true):=by
 obtain⟨b1,h1,g1⟩:=short p
 cases b1 with
 |false=>exact linkworklaw06_SturmIsolates.e0 p r _ _ h1 rfl awake
 |true =>
  obtain⟨b2,h2,g2⟩:=brief [r.lo,r.hi]
  cases b2 with
  |false=>exact linkworklaw06_SturmIsolates.e1 p r _ _ _ h1 rfl h2 rfl awake
  |true =>
   have hs:=g1 rfl
   have hlo:=g2 rfl r.lo (by simp)
   have hhi:=g2 rfl r.hi (by simp)
   have hf:=hs.fit (k:=274877906944) (by omega)
   by_cases hc:errC p=0
   ·have s:=hs.s6 hc
    have hg:FitG 1073741824 r:=⟨⟨by have:=hlo.1;omega,by have:=hlo.2.1;omega⟩,⟨by have:=hhi.1;omega,by have:=hhi.2.1;omega⟩⟩
    have a1:=CSt.Isolate s.fine s.fl okF
    have a2:=CSr.Isolate s.fine s.fl okF
    have b1:=CSt.Isolating s.fine r hg
    have b2:=CSr.Isolating s.fine r hg
    rw[s.pv] at a1 a2 b1 b2
    have hlen:=CSt.iso_len2 s.fine s.fl okF
    have hht:=iso_hts s.fine s.fl okF
    have loop:∀d t:Nat,(mkGs (isoL 13 7 (vals p))).length-t=d→linkworklaw06_SturmIsolates.Loop1 (mkGs (isoL 13 7 (vals p))) (mkGs (isoL 13 7 (vals p))) t (vB true):=by
     intro d
     induction d with
     |zero=>intro t hd;exact linkworklaw06_SturmIsolates.l11 _ _ t (by omega)
     |succ d ih =>
      intro t hd
      rw[mkGs_len] at hd
      obtain⟨v,hv⟩:∃v,(isoL 13 7 (vals p))[t]? = some v:=⟨_,List.getElem?_eq_getElem (by omega)⟩
      have hm:(mkGs (isoL 13 7 (vals p)))[t]? = some (mkG v.1 v.2):=by unfold mkGs;rw[List.getElem?_map,hv];rfl
      obtain⟨q1,q2⟩:=hht v (List.mem_of_getElem? hv)
      exact linkworklaw06_SturmIsolates.l10 _ _ t _ _ _ (by rw[mkGs_len];omega) hm hm (sameG _ _ (by omega) (by omega)) rfl (by omega) (ih (t+1) (by rw[mkGs_len];omega))
    exact linkworklaw06_SturmIsolates.e3 p r _ _ _ _ none _ none _ _ _ _ _ _ h1 rfl h2 rfl awake rfl a1 b1 a2 b2 (CBa.Num none) rfl rfl (CBa.Num none) rfl rfl (loop _ 0 rfl)
   ·exact linkworklaw06_SturmIsolates.e3 p r _ _ _ [] (some (errC p)) _ (some (errC p)) [] _ _ _ _ _ h1 rfl h2 rfl awake rfl (CSt.IsolateE hf hc) (CSt.IsolatingE hf hc r) (CSr.IsolateE hf hc) (CSr.IsolatingE hf hc r) (CBa.Num (some (errC p))) rfl rfl (CBa.Num (some (errC p))) rfl rfl (linkworklaw06_SturmIsolates.l11 _ _ 0 (by simp))
end C06
end Go.Proofs.YtjadajceekjeoaaGreatDoor.Sym
namespace Go.Proofs.YtjadajceekjeoaaGreatDoor.Sym
open Go Go.RowKit Go.ChangeShapes Go.WideShapes Go.ChangeAt
set_option linter.unusedVariables false
namespace RowSturmIsolates
theorem own:ownKnob Tryz.prog.godebug=none:=by kernel_rfl
theorem laid:laidOutB prg=true:=by kernel_rfl
theorem okArg{P:Program}{W:World}{base:Nat}{ps:Array TypeId}{args:Array Value}(hval:∀(j:Nat) t v,ps[j]? = some t→args[j]? = some v→Value.okWide P W .any base t v)(j:Nat){t:TypeId}{v:Value}(h1:ps[j]? = some t)(h2:args[j]? = some v):Value.okWide P W .any base t v:=hval j t v h1 h2
set_option maxRecDepth 100000 in
theorem contract(H:Type)(enc:TypeId×Value→H)(W:World)(base:Nat)(args:Array Value)(ds gs:List (DataW H))(before:List MemPlace)
  (hval:∀(j:Nat) t v,Tryz.f7.params[j]? = some t→args[j]? = some v→Value.okWide Tryz.prog W .any base t v)
  (hW:DataW.Whole enc Tryz.prog Tryz.f7.params.toList Rows.sturmIsolatesSpec.vars false W args.toList ds gs before)
  (hz:(DataW.weightsEach Tryz.prog (Tryz.f7.params.toList++Rows.sturmIsolatesSpec.plain.varTypes Tryz.prog) (ds++gs)).all (·≤reachBytes)=true) :
  Calls Tryz.prog 7 args W fun e W'=>∃v,e = .returned v∧Rows.sturmIsolatesSpec.post enc Tryz.prog Tryz.f7 false true false false W args v W':=by
 have hW':=hW
 obtain⟨p,q,hA,hV,rfl,hfz,hnd⟩:=hW
 have hp:Tryz.f7.params = #[23,46]:=by kernel_rfl
 rw[hp] at hA hval hz
 obtain⟨v0,vs0,d0,ds0,p0,q0,hargs,rfl,rfl,h0,r0⟩:=trodAll_cons hA
 obtain⟨v1,vs1,d1,ds1,p1,q1,rfl,rfl,rfl,h1,r1⟩:=trodAll_cons r0
 obtain⟨rfl,rfl,rfl⟩:=trodAll_nil r1
 obtain rfl:args = #[v0,v1]:=by cases args;simp_all
 obtain⟨rfl,rfl⟩:=trodVars_none hV
 obtain⟨n0,hn0⟩:=h0
 have hw0:∀k∈d0.weights prg 23,k≤reachBytes:=by
  intro k hk
  have:=List.all_eq_true.1 hz k (DataW.weights_mem_each (j:=0) rfl rfl k hk)
  simpa using this
 obtain⟨x0,hx0,b0⟩:=opens_poly enc W 0 (fun _=>true) true n0 _ _ hn0 hw0
 obtain⟨ra0,rl0,rc0,rfl⟩:=okWide_slice (show Tryz.prog.underlying 23=some (.slice 26) by kernel_rfl) (okArg hval 0 (t:=23) (v:=v0) (by simp) (by simp))
 have hrd0:Rd (Old W) W (polyPV x0) (.slice ra0 rl0 rc0):=(hx0.2 0 _ _ rfl rfl).2
 obtain⟨n1,hn1⟩:=h1
 have hw1:∀k∈d1.weights prg 46,k≤reachBytes:=by
  intro k hk
  have:=List.all_eq_true.1 hz k (DataW.weights_mem_each (j:=1) rfl rfl k hk)
  simpa using this
 obtain⟨x1,hx1,b1⟩:=opens_ARange enc W 0 (fun _=>true) true n1 _ _ hn1 hw1
 obtain⟨fs1,hu1,_⟩:=flds_spec (show fldsOf (prg.underlying 46)=some [(26,0),(26,3)] by kernel_rfl)
 have hv1:Value.okWide Tryz.prog W .any base 46 v1:=okArg hval 1 (by simp) (by simp)
 have hrd1:Rd (Old W) W x1.pv v1:=rd_struct (P:=Tryz.prog) (cs:=x1.cells) hu1 hv1 hx1
 have hc:=C06.SturmIsolates x0 x1 b0 b1
 refine(hc.2 (Old W) W (fun _=>none) #[.slice ra0 rl0 rc0,v1] (fun b hb=>hb) ⟨(fun r sc h=>by cases h),(fun r r' b h=>by obtain⟨_,h⟩:=h)⟩ rfl ?_).mono ?_
 ·intro j e v he hv
  cases j with
  |zero=>simp at he hv;subst he hv;exact hrd0
  |succ j =>
   cases j with
   |zero=>simp at he hv;subst he hv;exact hrd1
   |succ j=>simp at he
 ·intro e W' ⟨v,β',he,_,hk,_,hv,_⟩
  subst he
  have hv:Rd _ W' (vB true) v:=hv
  cases hv
  have hk':Keeps (fun _=>False) W W':=⟨hk.os,hk.tape,hk.output,hk.size,fun k h1 _=>hk.block k h1 (fun ⟨y,hy,_⟩=>by obtain⟨_,hy⟩:=hy),hk.shape,hk.drawn⟩
  refine⟨_,rfl,post_true (tb:=4) hW' hk' rfl (by kernel_rfl) (by kernel_rfl) rfl rfl rfl laid ?_⟩
  rw[hp]
  intro t ht
  have:t=23∨t=46:=by simpa using ht
  rcases this with rfl|rfl
  all_goals exact⟨by kernel_rfl,of_decide_eq_true (by kernel_rfl)⟩
def tabCells:DataW Unit→Array Value
 |.agg l=>(l.map fun d=>match d with
  |.lit (.int k n)=>Value.int k n
  |_=>Value.nilIface).toArray
 |_ => #[]
def setTab(b:Nat)(d:DataW Unit)(h:Array Obj):Array Obj:=h.modify b fun
 |.cells _ t fr => .cells (tabCells d) t fr
 |o=>o
noncomputable def laidWorld(os:Os):World :=
 { World.holding Tryz.prog os ⟨#[],#[],[]⟩ with heap:=setTab 0 Rows.laid_internal_strconv_uint64pow10 (setTab 2 Rows.laid_math_bits_deBruijn32tab (setTab 3 Rows.laid_math_bits_deBruijn64tab (World.holding Tryz.prog os ⟨#[],#[],[]⟩).heap)) }
theorem laid_met(os:Os):laidMet Tryz.prog Rows.sturmIsolatesRow.laid ((laidWorld os).forCall (fun _ _=>0) ⟨#[],#[.slice none 0 0,.agg #[.bool false,.slice none 0 0,.slice none 0 0,.bool false,.slice none 0 0,.slice none 0 0]],[]⟩).memory :=
 laidMet_of_run' 8 (by kernel_rfl) (by kernel_rfl)
theorem reads(os:Os){H:Type}(enc:TypeId×Value→H):(DataW.whole enc Tryz.prog ((laidWorld os).forCall (fun _ _=>0) ⟨#[],#[.slice none 0 0,.agg #[.bool false,.slice none 0 0,.slice none 0 0,.bool false,.slice none 0 0,.slice none 0 0]],[]⟩).memory Tryz.f7.params.toList Rows.sturmIsolatesSpec.vars false (#[.slice none 0 0,.agg #[.bool false,.slice none 0 0,.slice none 0 0,.bool false,.slice none 0 0,.slice none 0 0]]:Array Value).toList 8).isSome=true:=by kernel_rfl
set_option maxRecDepth 100000 in
theorem lifted(os:Os)(started:os.Started)(H:Type)(enc:TypeId×Value→H)(F:Stop.Interp) :
  ReturnsInHanded {} Tryz.checked os 7 .any ((OpenSpec.ofChange Rows.sturmIsolatesSpec).preRow enc Tryz.prog Tryz.f7 Rows.sturmIsolatesRow.domain false Rows.sturmIsolatesRow.laid) (((OpenSpec.ofChange Rows.sturmIsolatesSpec).at F).post enc Tryz.prog Tryz.f7 false true false false):=by
 obtain⟨x,hx⟩:=Option.isSome_iff_exists.1 (reads os enc)
 refine returnsInHanded_of_row (C:=Tryz.checked) (s:=OpenSpec.ofChange Rows.sturmIsolatesSpec) own started (by kernel_rfl) Tryz.func7
  (witness_row_at (enc:=enc) (C:=Tryz.checked) false (laidWorld os) #[.slice none 0 0,.agg #[.bool false,.slice none 0 0,.slice none 0 0,.bool false,.slice none 0 0,.slice none 0 0]] rfl (by kernel_rfl) (by kernel_rfl) (by kernel_rfl)
   (OpenSpec.preRow_of_cond 8 hx (by kernel_rfl) (fun k hk=>by cases hk) (by kernel_rfl) (laid_met os))) ?_
 intro W base args ds gs before hval hW _ _ hz hL _ _
 exact contract H enc W base args ds gs before hval hW hz
theorem j1:(Rows.sturmIsolatesRow.inPlace==Tryz.prog.inPlace 7)=true:=by kernel_rfl
theorem j2:(Rows.sturmIsolatesRow.unfollowed==Tryz.prog.unfollowed 7)=true:=by kernel_rfl
theorem j3:(Rows.sturmIsolatesRow.recurses==Tryz.prog.recurses 7)=true:=by kernel_rfl
theorem j4:(Rows.sturmIsolatesRow.named==Tryz.prog.varsNamed 7)=true:=by kernel_rfl
theorem closed:joinedFacts Tryz.prog 7 Tryz.f7 Rows.sturmIsolatesSpec Rows.sturmIsolatesRow=true:=by
 unfold joinedFacts
 rw[j1,j2,j3,j4]
 kernel_rfl
set_option maxRecDepth 100000 in
theorem said:Rows.SturmIsolatesSaid :=
 OpenClaim.holds_of_cond 7 Tryz.f7 rfl rfl rfl rfl rfl rfl rfl ⟨rfl,rfl,rfl,rfl,rfl⟩ rfl rfl rfl rfl rfl (by kernel_rfl) Tryz.func7 closed
  (of_decide_eq_true (by kernel_rfl)) (by unfold Func.isWrapper;first|(rw [if_pos (by decide +kernel)];kernel_rfl)|(rw [if_neg (by decide +kernel)];exact⟨rfl,rfl⟩))
  (fun os started H enc _ F=>by rw[OpenClaim.pre_eq_preRow];exact lifted os started H enc F)
theorem plainL(f:FuncId)(fn:Func)(hf:Tryz.pinned.checked.prog.funcNamed Rows.sturmIsolatesRow.func=some f)(hfn:Tryz.pinned.checked.prog.funcs[f]? = some fn) :
  true=Tryz.pinned.checked.prog.looks []∧∀(j:Nat) t,fn.params[j]? = some t→Tryz.pinned.checked.prog.wantsStandIn t=false:=by
 obtain rfl:f=7:=Option.some.inj ((show Tryz.prog.funcNamed Rows.sturmIsolatesRow.func=some 7 by kernel_rfl).symm.trans hf) |>.symm
 obtain rfl:fn=Tryz.f7:=(Option.some.inj (Tryz.func7.symm.trans hfn)).symm
 refine⟨by kernel_rfl,fun j t ht => ?_⟩
 have hp:Tryz.f7.params = #[23,46]:=by kernel_rfl
 rw[hp] at ht
 have:t=23∨t=46:=by simpa using Array.mem_of_getElem? ht
 rcases this with rfl|rfl
 all_goals exact(show Tryz.prog.wantsStandIn _=false by kernel_rfl)
theorem proved:Rows.SturmIsolatesCardSaid :=
 Claim7.holds_tied_plain_at .later [] _ _ _ _ said (fun _ h=>by cases h) (by kernel_rfl) (fun _ h=>by cases h) sturmIsolates_row_tie rfl ⟨rfl,rfl⟩ (by kernel_rfl) rfl plainL (by kernel_rfl)
end RowSturmIsolates
end Go.Proofs.YtjadajceekjeoaaGreatDoor.Sym
